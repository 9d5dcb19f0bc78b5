/- Merged texts: TvG, TvH, TvI, TvJ, EngZC, Close, TvTop, TvUs, TvUa, TvUb, TvUc, TvL, TvK, TvBa, TvBk. -/
import Derived.ProofKit
import Derived.OpenShut
import Derived.LaidMore
import Derived.Deep.Slices
import Derived.Test.YtcaomfbcchemnaaDoorRows
import Derived.Test.YtcaomfbcchemnaaDoorTie
import Derived.Test.YtcaomfbcchemnaaDoorCards
import Derived.Stop.Joined
import Derived.SevenTiedAt
import Derived.WideKeyElems2
import Derived.Test.YtcaomfbcchemnaaDoorMc
/- Chapter 21: a step of the machine. -/
namespace Go.Proofs.YtcaomfbcchemnaaDoor
open Go
set_option linter.unusedVariables false
set_option linter.unusedSimpArgs false
noncomputable def dEnvL := (.cons dI (.cons dI (.cons dI (.cons dI (.cons dI (.cons dI (.cons dI (.cons dI (.cons dI (.cons dI (.cons dI (.cons dI (.cons dI (.cons dI (.cons dI (.cons dI (.cons dI .nil)))))))))))))))) : DcL E (Int × Int × Int × Int × Int × Int × Int × Int × Int × Int × Int × Int × Int × Int × Int × Int × Int × Unit))
noncomputable def dEnv : Dc E Env := .map (dAgg dEnvL) (fun x => ⟨x.1, x.2.1, x.2.2.1, x.2.2.2.1, x.2.2.2.2.1, x.2.2.2.2.2.1, x.2.2.2.2.2.2.1, x.2.2.2.2.2.2.2.1, x.2.2.2.2.2.2.2.2.1, x.2.2.2.2.2.2.2.2.2.1, x.2.2.2.2.2.2.2.2.2.2.1, x.2.2.2.2.2.2.2.2.2.2.2.1, x.2.2.2.2.2.2.2.2.2.2.2.2.1, x.2.2.2.2.2.2.2.2.2.2.2.2.2.1, x.2.2.2.2.2.2.2.2.2.2.2.2.2.2.1, x.2.2.2.2.2.2.2.2.2.2.2.2.2.2.2.1, x.2.2.2.2.2.2.2.2.2.2.2.2.2.2.2.2.1⟩)
  (fun x => (x.has, x.v0, x.v1, x.v2, x.v3, x.v4, x.v5, x.v6, x.v7, x.v8, x.v9, x.v10, x.v11, x.v12, x.v13, x.v14, x.v15, ())) (fun _ => rfl)
noncomputable def dSt : Dc E St := .map (dAgg (.cons dI (.cons dI (.cons dI (.cons dI (dL1 dInts))))) : Dc E (Int × Int × Int × Int × List Int × Unit)) (fun x => ⟨x.1, x.2.1, x.2.2.1, x.2.2.2.1, x.2.2.2.2.1⟩) (fun s => (s.pc, s.fuel, s.status, s.clause, s.stack, ())) (fun _ => rfl)
def envV (v : Env) : SV thy := .agg [.int false .i64 v.has, .int false .i64 v.v0, .int false .i64 v.v1, .int false .i64 v.v2, .int false .i64 v.v3, .int false .i64 v.v4, .int false .i64 v.v5, .int false .i64 v.v6, .int false .i64 v.v7, .int false .i64 v.v8, .int false .i64 v.v9, .int false .i64 v.v10, .int false .i64 v.v11, .int false .i64 v.v12, .int false .i64 v.v13, .int false .i64 v.v14, .int false .i64 v.v15]
def stV (s : St) : SV thy := .agg [.int false .i64 s.pc, .int false .i64 s.fuel, .int false .i64 s.status, .int false .i64 s.clause, .psl .ints s.stack false]
noncomputable def Sver : Sum thy := sumP (dL1 dCode) (fun _ => True) fun x => .tup [.int false .i64 (verF x.1).1, .int false .i64 (verF x.1).2]
noncomputable def F5 : Fns thy := addS F4 9 Sver
theorem F5_ok : FnsOk E F5 := addS_ok F4_ok (sumP_ok E_ok (good_of (f := 9) rfl) fun x _ => verify_pure x.1)
--@cond advance | 34 | F5 | 400 | (c : List Ins) (v : Env) (s : St) (below : Int) | [.psl .ins c false, envV v, stV s, .int false .i64 below] | (z : St) | stV z
theorem cond_advance (c : List Ins) (v : Env) (s : St) (below : Int) (z : St) : callF E F5 (vc E F5 400) 34 [.psl .ins c false, envV v, stV s, .int false .i64 below] hp0 0 (fun r => ret E (patch hp0 0 r) r.v (stV z)) = (
  ((St.fuel s == (0 : Int)) = true → St.pc s = St.pc z ∧ St.fuel s = St.fuel z ∧ (220 : Int) = St.status z ∧ St.clause s = St.clause z ∧ (St.stack s = St.stack z ∧ (false = true →
  false = true)) ∧ True) ∧ ((St.fuel s == (0 : Int)) = false → (0 : Int) ≤ St.pc s ∧ St.pc s + (1 : Int) ≤ (↑(List.length c) : Int) ∧ ∀ (x : Ins), c[Int.toNat (St.pc s)]? = some x →
  True ∧ (decide ((↑(List.length (St.stack s)) : Int) < needsF (Ins.op x)) = true → St.pc s = St.pc z ∧ wr IntKind.i64 (St.fuel s - (1 : Int)) = St.fuel z ∧ (210 : Int) = St.status z
  ∧ St.clause s = St.clause z ∧ (St.stack s = St.stack z ∧ (false = true → false = true)) ∧ True) ∧ (decide ((↑(List.length (St.stack s)) : Int) < needsF (Ins.op x)) = false →
  ((Ins.op x == (1 : Int)) = true → (decide (wr IntKind.i64 (below + (↑(List.length (St.stack s)) : Int)) ≥ (64 : Int)) = true → St.pc s = St.pc z ∧ wr IntKind.i64 (St.fuel s - (1 :
  Int)) = St.fuel z ∧ (210 : Int) = St.status z ∧ St.clause s = St.clause z ∧ (St.stack s = St.stack z ∧ (false = true → false = true)) ∧ True) ∧ (decide (wr IntKind.i64 (below +
  (↑(List.length (St.stack s)) : Int)) ≥ (64 : Int)) = false → ((0 : Int) ≤ wr IntKind.i64 ((↑(List.length (St.stack s)) : Int) - (0 : Int)) ∧ wr IntKind.i64 ((↑(List.length
  (St.stack s)) : Int) - (0 : Int)) = wr IntKind.i64 ((↑(List.length (St.stack s)) : Int) - (0 : Int)) ∧ wr IntKind.i64 ((↑(List.length (St.stack s)) : Int) - (0 : Int)) ≤
  (↑(List.length (St.stack s)) : Int)) ∧ (List.length (List.take (Int.toNat (wr IntKind.i64 ((↑(List.length (St.stack s)) : Int) - (0 : Int)))) (St.stack s)) + (1 : Nat)) * (8 : Nat)
  ≤ (140737488355328 : Nat) ∧ wr IntKind.i64 (St.pc s + (1 : Int)) = St.pc z ∧ wr IntKind.i64 (St.fuel s - (1 : Int)) = St.fuel z ∧ St.status s = St.status z ∧ St.clause s =
  St.clause z ∧ ((0 : Nat) + (List.length (List.take (Int.toNat (wr IntKind.i64 ((↑(List.length (St.stack s)) : Int) - (0 : Int)))) (St.stack s)) + (1 : Nat)) ≤ List.length
  (List.take (Int.toNat (wr IntKind.i64 ((↑(List.length (St.stack s)) : Int) - (0 : Int)))) (St.stack s) ++ [Ins.n x]) ∧ List.take (List.length (List.take (Int.toNat (wr IntKind.i64
  ((↑(List.length (St.stack s)) : Int) - (0 : Int)))) (St.stack s)) + (1 : Nat)) (List.take (Int.toNat (wr IntKind.i64 ((↑(List.length (St.stack s)) : Int) - (0 : Int)))) (St.stack
  s) ++ [Ins.n x]) = St.stack z) ∧ True)) ∧ ((Ins.op x == (1 : Int)) = false → ((Ins.op x == (2 : Int)) = true → (decide (wr IntKind.i64 (below + (↑(List.length (St.stack s)) : Int))
  ≥ (64 : Int)) = true → St.pc s = St.pc z ∧ wr IntKind.i64 (St.fuel s - (1 : Int)) = St.fuel z ∧ (210 : Int) = St.status z ∧ St.clause s = St.clause z ∧ (St.stack s = St.stack z ∧
  (false = true → false = true)) ∧ True) ∧ (decide (wr IntKind.i64 (below + (↑(List.length (St.stack s)) : Int)) ≥ (64 : Int)) = false → (0 : Int) ≤ Ins.n x ∧ ((bitsOp BinOp.and
  IntKind.i64 (Env.has v) (wr IntKind.i64 ((1 : Int) * (2 : Int) ^ min (Int.toNat (Ins.n x)) (IntKind.bits IntKind.i64))) == (0 : Int)) = true → St.pc s = St.pc z ∧ wr IntKind.i64
  (St.fuel s - (1 : Int)) = St.fuel z ∧ (191 : Int) = St.status z ∧ St.clause s = St.clause z ∧ (St.stack s = St.stack z ∧ (false = true → false = true)) ∧ True) ∧ ((bitsOp BinOp.and
  IntKind.i64 (Env.has v) (wr IntKind.i64 ((1 : Int) * (2 : Int) ^ min (Int.toNat (Ins.n x)) (IntKind.bits IntKind.i64))) == (0 : Int)) = false → (0 : Int) ≤ Ins.n x ∧ Ins.n x + (1 :
  Int) ≤ (↑(16 : Nat) : Int) ∧ ((Ins.n x == (↑(0 : Nat) : Int)) = true → ∃ (Q : Bool → Prop), ((decide (Env.v0 v < (-9007199254740992 : Int)) = true → Q true) ∧ (decide (Env.v0 v <
  (-9007199254740992 : Int)) = false → (decide (Env.v0 v > (9007199254740992 : Int)) = true → Q true) ∧ (decide (Env.v0 v > (9007199254740992 : Int)) = false → Q false))) ∧ (Q true →
  St.pc s = St.pc z ∧ wr IntKind.i64 (St.fuel s - (1 : Int)) = St.fuel z ∧ (13 : Int) = St.status z ∧ St.clause s = St.clause z ∧ (St.stack s = St.stack z ∧ (false = true → false =
  true)) ∧ True) ∧ (Q false → ((0 : Int) ≤ wr IntKind.i64 ((↑(List.length (St.stack s)) : Int) - (0 : Int)) ∧ wr IntKind.i64 ((↑(List.length (St.stack s)) : Int) - (0 : Int)) = wr
  IntKind.i64 ((↑(List.length (St.stack s)) : Int) - (0 : Int)) ∧ wr IntKind.i64 ((↑(List.length (St.stack s)) : Int) - (0 : Int)) ≤ (↑(List.length (St.stack s)) : Int)) ∧
  (List.length (List.take (Int.toNat (wr IntKind.i64 ((↑(List.length (St.stack s)) : Int) - (0 : Int)))) (St.stack s)) + (1 : Nat)) * (8 : Nat) ≤ (140737488355328 : Nat) ∧ wr
  IntKind.i64 (St.pc s + (1 : Int)) = St.pc z ∧ wr IntKind.i64 (St.fuel s - (1 : Int)) = St.fuel z ∧ St.status s = St.status z ∧ St.clause s = St.clause z ∧ ((0 : Nat) + (List.length
  (List.take (Int.toNat (wr IntKind.i64 ((↑(List.length (St.stack s)) : Int) - (0 : Int)))) (St.stack s)) + (1 : Nat)) ≤ List.length (List.take (Int.toNat (wr IntKind.i64
  ((↑(List.length (St.stack s)) : Int) - (0 : Int)))) (St.stack s) ++ [Env.v0 v]) ∧ List.take (List.length (List.take (Int.toNat (wr IntKind.i64 ((↑(List.length (St.stack s)) : Int)
  - (0 : Int)))) (St.stack s)) + (1 : Nat)) (List.take (Int.toNat (wr IntKind.i64 ((↑(List.length (St.stack s)) : Int) - (0 : Int)))) (St.stack s) ++ [Env.v0 v]) = St.stack z) ∧
  True)) ∧ ((Ins.n x == (↑(0 : Nat) : Int)) = false → ((Ins.n x == (↑((0 : Nat) + (1 : Nat)) : Int)) = true → ∃ (Q : Bool → Prop), ((decide (Env.v1 v < (-9007199254740992 : Int)) =
  true → Q true) ∧ (decide (Env.v1 v < (-9007199254740992 : Int)) = false → (decide (Env.v1 v > (9007199254740992 : Int)) = true → Q true) ∧ (decide (Env.v1 v > (9007199254740992 :
  Int)) = false → Q false))) ∧ (Q true → St.pc s = St.pc z ∧ wr IntKind.i64 (St.fuel s - (1 : Int)) = St.fuel z ∧ (13 : Int) = St.status z ∧ St.clause s = St.clause z ∧ (St.stack s =
  St.stack z ∧ (false = true → false = true)) ∧ True) ∧ (Q false → ((0 : Int) ≤ wr IntKind.i64 ((↑(List.length (St.stack s)) : Int) - (0 : Int)) ∧ wr IntKind.i64 ((↑(List.length
  (St.stack s)) : Int) - (0 : Int)) = wr IntKind.i64 ((↑(List.length (St.stack s)) : Int) - (0 : Int)) ∧ wr IntKind.i64 ((↑(List.length (St.stack s)) : Int) - (0 : Int)) ≤
  (↑(List.length (St.stack s)) : Int)) ∧ (List.length (List.take (Int.toNat (wr IntKind.i64 ((↑(List.length (St.stack s)) : Int) - (0 : Int)))) (St.stack s)) + (1 : Nat)) * (8 : Nat)
  ≤ (140737488355328 : Nat) ∧ wr IntKind.i64 (St.pc s + (1 : Int)) = St.pc z ∧ wr IntKind.i64 (St.fuel s - (1 : Int)) = St.fuel z ∧ St.status s = St.status z ∧ St.clause s =
  St.clause z ∧ ((0 : Nat) + (List.length (List.take (Int.toNat (wr IntKind.i64 ((↑(List.length (St.stack s)) : Int) - (0 : Int)))) (St.stack s)) + (1 : Nat)) ≤ List.length
  (List.take (Int.toNat (wr IntKind.i64 ((↑(List.length (St.stack s)) : Int) - (0 : Int)))) (St.stack s) ++ [Env.v1 v]) ∧ List.take (List.length (List.take (Int.toNat (wr IntKind.i64
  ((↑(List.length (St.stack s)) : Int) - (0 : Int)))) (St.stack s)) + (1 : Nat)) (List.take (Int.toNat (wr IntKind.i64 ((↑(List.length (St.stack s)) : Int) - (0 : Int)))) (St.stack
  s) ++ [Env.v1 v]) = St.stack z) ∧ True)) ∧ ((Ins.n x == (↑((0 : Nat) + (1 : Nat)) : Int)) = false → ((Ins.n x == (↑((0 : Nat) + (1 : Nat) + (1 : Nat)) : Int)) = true → ∃ (Q : Bool
  → Prop), ((decide (Env.v2 v < (-9007199254740992 : Int)) = true → Q true) ∧ (decide (Env.v2 v < (-9007199254740992 : Int)) = false → (decide (Env.v2 v > (9007199254740992 : Int)) =
  true → Q true) ∧ (decide (Env.v2 v > (9007199254740992 : Int)) = false → Q false))) ∧ (Q true → St.pc s = St.pc z ∧ wr IntKind.i64 (St.fuel s - (1 : Int)) = St.fuel z ∧ (13 : Int)
  = St.status z ∧ St.clause s = St.clause z ∧ (St.stack s = St.stack z ∧ (false = true → false = true)) ∧ True) ∧ (Q false → ((0 : Int) ≤ wr IntKind.i64 ((↑(List.length (St.stack s))
  : Int) - (0 : Int)) ∧ wr IntKind.i64 ((↑(List.length (St.stack s)) : Int) - (0 : Int)) = wr IntKind.i64 ((↑(List.length (St.stack s)) : Int) - (0 : Int)) ∧ wr IntKind.i64
  ((↑(List.length (St.stack s)) : Int) - (0 : Int)) ≤ (↑(List.length (St.stack s)) : Int)) ∧ (List.length (List.take (Int.toNat (wr IntKind.i64 ((↑(List.length (St.stack s)) : Int) -
  (0 : Int)))) (St.stack s)) + (1 : Nat)) * (8 : Nat) ≤ (140737488355328 : Nat) ∧ wr IntKind.i64 (St.pc s + (1 : Int)) = St.pc z ∧ wr IntKind.i64 (St.fuel s - (1 : Int)) = St.fuel z
  ∧ St.status s = St.status z ∧ St.clause s = St.clause z ∧ ((0 : Nat) + (List.length (List.take (Int.toNat (wr IntKind.i64 ((↑(List.length (St.stack s)) : Int) - (0 : Int))))
  (St.stack s)) + (1 : Nat)) ≤ List.length (List.take (Int.toNat (wr IntKind.i64 ((↑(List.length (St.stack s)) : Int) - (0 : Int)))) (St.stack s) ++ [Env.v2 v]) ∧ List.take
  (List.length (List.take (Int.toNat (wr IntKind.i64 ((↑(List.length (St.stack s)) : Int) - (0 : Int)))) (St.stack s)) + (1 : Nat)) (List.take (Int.toNat (wr IntKind.i64
  ((↑(List.length (St.stack s)) : Int) - (0 : Int)))) (St.stack s) ++ [Env.v2 v]) = St.stack z) ∧ True)) ∧ ((Ins.n x == (↑((0 : Nat) + (1 : Nat) + (1 : Nat)) : Int)) = false →
  ((Ins.n x == (↑((0 : Nat) + (1 : Nat) + (1 : Nat) + (1 : Nat)) : Int)) = true → ∃ (Q : Bool → Prop), ((decide (Env.v3 v < (-9007199254740992 : Int)) = true → Q true) ∧ (decide
  (Env.v3 v < (-9007199254740992 : Int)) = false → (decide (Env.v3 v > (9007199254740992 : Int)) = true → Q true) ∧ (decide (Env.v3 v > (9007199254740992 : Int)) = false → Q false)))
  ∧ (Q true → St.pc s = St.pc z ∧ wr IntKind.i64 (St.fuel s - (1 : Int)) = St.fuel z ∧ (13 : Int) = St.status z ∧ St.clause s = St.clause z ∧ (St.stack s = St.stack z ∧ (false = true
  → false = true)) ∧ True) ∧ (Q false → ((0 : Int) ≤ wr IntKind.i64 ((↑(List.length (St.stack s)) : Int) - (0 : Int)) ∧ wr IntKind.i64 ((↑(List.length (St.stack s)) : Int) - (0 :
  Int)) = wr IntKind.i64 ((↑(List.length (St.stack s)) : Int) - (0 : Int)) ∧ wr IntKind.i64 ((↑(List.length (St.stack s)) : Int) - (0 : Int)) ≤ (↑(List.length (St.stack s)) : Int)) ∧
  (List.length (List.take (Int.toNat (wr IntKind.i64 ((↑(List.length (St.stack s)) : Int) - (0 : Int)))) (St.stack s)) + (1 : Nat)) * (8 : Nat) ≤ (140737488355328 : Nat) ∧ wr
  IntKind.i64 (St.pc s + (1 : Int)) = St.pc z ∧ wr IntKind.i64 (St.fuel s - (1 : Int)) = St.fuel z ∧ St.status s = St.status z ∧ St.clause s = St.clause z ∧ ((0 : Nat) + (List.length
  (List.take (Int.toNat (wr IntKind.i64 ((↑(List.length (St.stack s)) : Int) - (0 : Int)))) (St.stack s)) + (1 : Nat)) ≤ List.length (List.take (Int.toNat (wr IntKind.i64
  ((↑(List.length (St.stack s)) : Int) - (0 : Int)))) (St.stack s) ++ [Env.v3 v]) ∧ List.take (List.length (List.take (Int.toNat (wr IntKind.i64 ((↑(List.length (St.stack s)) : Int)
  - (0 : Int)))) (St.stack s)) + (1 : Nat)) (List.take (Int.toNat (wr IntKind.i64 ((↑(List.length (St.stack s)) : Int) - (0 : Int)))) (St.stack s) ++ [Env.v3 v]) = St.stack z) ∧
  True)) ∧ ((Ins.n x == (↑((0 : Nat) + (1 : Nat) + (1 : Nat) + (1 : Nat)) : Int)) = false → ((Ins.n x == (↑((0 : Nat) + (1 : Nat) + (1 : Nat) + (1 : Nat) + (1 : Nat)) : Int)) = true
  → ∃ (Q : Bool → Prop), ((decide (Env.v4 v < (-9007199254740992 : Int)) = true → Q true) ∧ (decide (Env.v4 v < (-9007199254740992 : Int)) = false → (decide (Env.v4 v >
  (9007199254740992 : Int)) = true → Q true) ∧ (decide (Env.v4 v > (9007199254740992 : Int)) = false → Q false))) ∧ (Q true → St.pc s = St.pc z ∧ wr IntKind.i64 (St.fuel s - (1 :
  Int)) = St.fuel z ∧ (13 : Int) = St.status z ∧ St.clause s = St.clause z ∧ (St.stack s = St.stack z ∧ (false = true → false = true)) ∧ True) ∧ (Q false → ((0 : Int) ≤ wr
  IntKind.i64 ((↑(List.length (St.stack s)) : Int) - (0 : Int)) ∧ wr IntKind.i64 ((↑(List.length (St.stack s)) : Int) - (0 : Int)) = wr IntKind.i64 ((↑(List.length (St.stack s)) :
  Int) - (0 : Int)) ∧ wr IntKind.i64 ((↑(List.length (St.stack s)) : Int) - (0 : Int)) ≤ (↑(List.length (St.stack s)) : Int)) ∧ (List.length (List.take (Int.toNat (wr IntKind.i64
  ((↑(List.length (St.stack s)) : Int) - (0 : Int)))) (St.stack s)) + (1 : Nat)) * (8 : Nat) ≤ (140737488355328 : Nat) ∧ wr IntKind.i64 (St.pc s + (1 : Int)) = St.pc z ∧ wr
  IntKind.i64 (St.fuel s - (1 : Int)) = St.fuel z ∧ St.status s = St.status z ∧ St.clause s = St.clause z ∧ ((0 : Nat) + (List.length (List.take (Int.toNat (wr IntKind.i64
  ((↑(List.length (St.stack s)) : Int) - (0 : Int)))) (St.stack s)) + (1 : Nat)) ≤ List.length (List.take (Int.toNat (wr IntKind.i64 ((↑(List.length (St.stack s)) : Int) - (0 :
  Int)))) (St.stack s) ++ [Env.v4 v]) ∧ List.take (List.length (List.take (Int.toNat (wr IntKind.i64 ((↑(List.length (St.stack s)) : Int) - (0 : Int)))) (St.stack s)) + (1 : Nat))
  (List.take (Int.toNat (wr IntKind.i64 ((↑(List.length (St.stack s)) : Int) - (0 : Int)))) (St.stack s) ++ [Env.v4 v]) = St.stack z) ∧ True)) ∧ ((Ins.n x == (↑((0 : Nat) + (1 : Nat)
  + (1 : Nat) + (1 : Nat) + (1 : Nat)) : Int)) = false → ((Ins.n x == (↑((0 : Nat) + (1 : Nat) + (1 : Nat) + (1 : Nat) + (1 : Nat) + (1 : Nat)) : Int)) = true → ∃ (Q : Bool → Prop),
  ((decide (Env.v5 v < (-9007199254740992 : Int)) = true → Q true) ∧ (decide (Env.v5 v < (-9007199254740992 : Int)) = false → (decide (Env.v5 v > (9007199254740992 : Int)) = true → Q
  true) ∧ (decide (Env.v5 v > (9007199254740992 : Int)) = false → Q false))) ∧ (Q true → St.pc s = St.pc z ∧ wr IntKind.i64 (St.fuel s - (1 : Int)) = St.fuel z ∧ (13 : Int) =
  St.status z ∧ St.clause s = St.clause z ∧ (St.stack s = St.stack z ∧ (false = true → false = true)) ∧ True) ∧ (Q false → ((0 : Int) ≤ wr IntKind.i64 ((↑(List.length (St.stack s)) :
  Int) - (0 : Int)) ∧ wr IntKind.i64 ((↑(List.length (St.stack s)) : Int) - (0 : Int)) = wr IntKind.i64 ((↑(List.length (St.stack s)) : Int) - (0 : Int)) ∧ wr IntKind.i64
  ((↑(List.length (St.stack s)) : Int) - (0 : Int)) ≤ (↑(List.length (St.stack s)) : Int)) ∧ (List.length (List.take (Int.toNat (wr IntKind.i64 ((↑(List.length (St.stack s)) : Int) -
  (0 : Int)))) (St.stack s)) + (1 : Nat)) * (8 : Nat) ≤ (140737488355328 : Nat) ∧ wr IntKind.i64 (St.pc s + (1 : Int)) = St.pc z ∧ wr IntKind.i64 (St.fuel s - (1 : Int)) = St.fuel z
  ∧ St.status s = St.status z ∧ St.clause s = St.clause z ∧ ((0 : Nat) + (List.length (List.take (Int.toNat (wr IntKind.i64 ((↑(List.length (St.stack s)) : Int) - (0 : Int))))
  (St.stack s)) + (1 : Nat)) ≤ List.length (List.take (Int.toNat (wr IntKind.i64 ((↑(List.length (St.stack s)) : Int) - (0 : Int)))) (St.stack s) ++ [Env.v5 v]) ∧ List.take
  (List.length (List.take (Int.toNat (wr IntKind.i64 ((↑(List.length (St.stack s)) : Int) - (0 : Int)))) (St.stack s)) + (1 : Nat)) (List.take (Int.toNat (wr IntKind.i64
  ((↑(List.length (St.stack s)) : Int) - (0 : Int)))) (St.stack s) ++ [Env.v5 v]) = St.stack z) ∧ True)) ∧ ((Ins.n x == (↑((0 : Nat) + (1 : Nat) + (1 : Nat) + (1 : Nat) + (1 : Nat) +
  (1 : Nat)) : Int)) = false → ((Ins.n x == (↑((0 : Nat) + (1 : Nat) + (1 : Nat) + (1 : Nat) + (1 : Nat) + (1 : Nat) + (1 : Nat)) : Int)) = true → ∃ (Q : Bool → Prop), ((decide
  (Env.v6 v < (-9007199254740992 : Int)) = true → Q true) ∧ (decide (Env.v6 v < (-9007199254740992 : Int)) = false → (decide (Env.v6 v > (9007199254740992 : Int)) = true → Q true) ∧
  (decide (Env.v6 v > (9007199254740992 : Int)) = false → Q false))) ∧ (Q true → St.pc s = St.pc z ∧ wr IntKind.i64 (St.fuel s - (1 : Int)) = St.fuel z ∧ (13 : Int) = St.status z ∧
  St.clause s = St.clause z ∧ (St.stack s = St.stack z ∧ (false = true → false = true)) ∧ True) ∧ (Q false → ((0 : Int) ≤ wr IntKind.i64 ((↑(List.length (St.stack s)) : Int) - (0 :
  Int)) ∧ wr IntKind.i64 ((↑(List.length (St.stack s)) : Int) - (0 : Int)) = wr IntKind.i64 ((↑(List.length (St.stack s)) : Int) - (0 : Int)) ∧ wr IntKind.i64 ((↑(List.length
  (St.stack s)) : Int) - (0 : Int)) ≤ (↑(List.length (St.stack s)) : Int)) ∧ (List.length (List.take (Int.toNat (wr IntKind.i64 ((↑(List.length (St.stack s)) : Int) - (0 : Int))))
  (St.stack s)) + (1 : Nat)) * (8 : Nat) ≤ (140737488355328 : Nat) ∧ wr IntKind.i64 (St.pc s + (1 : Int)) = St.pc z ∧ wr IntKind.i64 (St.fuel s - (1 : Int)) = St.fuel z ∧ St.status s
  = St.status z ∧ St.clause s = St.clause z ∧ ((0 : Nat) + (List.length (List.take (Int.toNat (wr IntKind.i64 ((↑(List.length (St.stack s)) : Int) - (0 : Int)))) (St.stack s)) + (1 :
  Nat)) ≤ List.length (List.take (Int.toNat (wr IntKind.i64 ((↑(List.length (St.stack s)) : Int) - (0 : Int)))) (St.stack s) ++ [Env.v6 v]) ∧ List.take (List.length (List.take
  (Int.toNat (wr IntKind.i64 ((↑(List.length (St.stack s)) : Int) - (0 : Int)))) (St.stack s)) + (1 : Nat)) (List.take (Int.toNat (wr IntKind.i64 ((↑(List.length (St.stack s)) : Int)
  - (0 : Int)))) (St.stack s) ++ [Env.v6 v]) = St.stack z) ∧ True)) ∧ ((Ins.n x == (↑((0 : Nat) + (1 : Nat) + (1 : Nat) + (1 : Nat) + (1 : Nat) + (1 : Nat) + (1 : Nat)) : Int)) =
  false → ((Ins.n x == (↑((0 : Nat) + (1 : Nat) + (1 : Nat) + (1 : Nat) + (1 : Nat) + (1 : Nat) + (1 : Nat) + (1 : Nat)) : Int)) = true → ∃ (Q : Bool → Prop), ((decide (Env.v7 v <
  (-9007199254740992 : Int)) = true → Q true) ∧ (decide (Env.v7 v < (-9007199254740992 : Int)) = false → (decide (Env.v7 v > (9007199254740992 : Int)) = true → Q true) ∧ (decide
  (Env.v7 v > (9007199254740992 : Int)) = false → Q false))) ∧ (Q true → St.pc s = St.pc z ∧ wr IntKind.i64 (St.fuel s - (1 : Int)) = St.fuel z ∧ (13 : Int) = St.status z ∧ St.clause
  s = St.clause z ∧ (St.stack s = St.stack z ∧ (false = true → false = true)) ∧ True) ∧ (Q false → ((0 : Int) ≤ wr IntKind.i64 ((↑(List.length (St.stack s)) : Int) - (0 : Int)) ∧ wr
  IntKind.i64 ((↑(List.length (St.stack s)) : Int) - (0 : Int)) = wr IntKind.i64 ((↑(List.length (St.stack s)) : Int) - (0 : Int)) ∧ wr IntKind.i64 ((↑(List.length (St.stack s)) :
  Int) - (0 : Int)) ≤ (↑(List.length (St.stack s)) : Int)) ∧ (List.length (List.take (Int.toNat (wr IntKind.i64 ((↑(List.length (St.stack s)) : Int) - (0 : Int)))) (St.stack s)) + (1
  : Nat)) * (8 : Nat) ≤ (140737488355328 : Nat) ∧ wr IntKind.i64 (St.pc s + (1 : Int)) = St.pc z ∧ wr IntKind.i64 (St.fuel s - (1 : Int)) = St.fuel z ∧ St.status s = St.status z ∧
  St.clause s = St.clause z ∧ ((0 : Nat) + (List.length (List.take (Int.toNat (wr IntKind.i64 ((↑(List.length (St.stack s)) : Int) - (0 : Int)))) (St.stack s)) + (1 : Nat)) ≤
  List.length (List.take (Int.toNat (wr IntKind.i64 ((↑(List.length (St.stack s)) : Int) - (0 : Int)))) (St.stack s) ++ [Env.v7 v]) ∧ List.take (List.length (List.take (Int.toNat (wr
  IntKind.i64 ((↑(List.length (St.stack s)) : Int) - (0 : Int)))) (St.stack s)) + (1 : Nat)) (List.take (Int.toNat (wr IntKind.i64 ((↑(List.length (St.stack s)) : Int) - (0 : Int))))
  (St.stack s) ++ [Env.v7 v]) = St.stack z) ∧ True)) ∧ ((Ins.n x == (↑((0 : Nat) + (1 : Nat) + (1 : Nat) + (1 : Nat) + (1 : Nat) + (1 : Nat) + (1 : Nat) + (1 : Nat)) : Int)) = false
  → ((Ins.n x == (↑((0 : Nat) + (1 : Nat) + (1 : Nat) + (1 : Nat) + (1 : Nat) + (1 : Nat) + (1 : Nat) + (1 : Nat) + (1 : Nat)) : Int)) = true → ∃ (Q : Bool → Prop), ((decide (Env.v8
  v < (-9007199254740992 : Int)) = true → Q true) ∧ (decide (Env.v8 v < (-9007199254740992 : Int)) = false → (decide (Env.v8 v > (9007199254740992 : Int)) = true → Q true) ∧ (decide
  (Env.v8 v > (9007199254740992 : Int)) = false → Q false))) ∧ (Q true → St.pc s = St.pc z ∧ wr IntKind.i64 (St.fuel s - (1 : Int)) = St.fuel z ∧ (13 : Int) = St.status z ∧ St.clause
  s = St.clause z ∧ (St.stack s = St.stack z ∧ (false = true → false = true)) ∧ True) ∧ (Q false → ((0 : Int) ≤ wr IntKind.i64 ((↑(List.length (St.stack s)) : Int) - (0 : Int)) ∧ wr
  IntKind.i64 ((↑(List.length (St.stack s)) : Int) - (0 : Int)) = wr IntKind.i64 ((↑(List.length (St.stack s)) : Int) - (0 : Int)) ∧ wr IntKind.i64 ((↑(List.length (St.stack s)) :
  Int) - (0 : Int)) ≤ (↑(List.length (St.stack s)) : Int)) ∧ (List.length (List.take (Int.toNat (wr IntKind.i64 ((↑(List.length (St.stack s)) : Int) - (0 : Int)))) (St.stack s)) + (1
  : Nat)) * (8 : Nat) ≤ (140737488355328 : Nat) ∧ wr IntKind.i64 (St.pc s + (1 : Int)) = St.pc z ∧ wr IntKind.i64 (St.fuel s - (1 : Int)) = St.fuel z ∧ St.status s = St.status z ∧
  St.clause s = St.clause z ∧ ((0 : Nat) + (List.length (List.take (Int.toNat (wr IntKind.i64 ((↑(List.length (St.stack s)) : Int) - (0 : Int)))) (St.stack s)) + (1 : Nat)) ≤
  List.length (List.take (Int.toNat (wr IntKind.i64 ((↑(List.length (St.stack s)) : Int) - (0 : Int)))) (St.stack s) ++ [Env.v8 v]) ∧ List.take (List.length (List.take (Int.toNat (wr
  IntKind.i64 ((↑(List.length (St.stack s)) : Int) - (0 : Int)))) (St.stack s)) + (1 : Nat)) (List.take (Int.toNat (wr IntKind.i64 ((↑(List.length (St.stack s)) : Int) - (0 : Int))))
  (St.stack s) ++ [Env.v8 v]) = St.stack z) ∧ True)) ∧ ((Ins.n x == (↑((0 : Nat) + (1 : Nat) + (1 : Nat) + (1 : Nat) + (1 : Nat) + (1 : Nat) + (1 : Nat) + (1 : Nat) + (1 : Nat)) :
  Int)) = false → ((Ins.n x == (↑((0 : Nat) + (1 : Nat) + (1 : Nat) + (1 : Nat) + (1 : Nat) + (1 : Nat) + (1 : Nat) + (1 : Nat) + (1 : Nat) + (1 : Nat)) : Int)) = true → ∃ (Q : Bool
  → Prop), ((decide (Env.v9 v < (-9007199254740992 : Int)) = true → Q true) ∧ (decide (Env.v9 v < (-9007199254740992 : Int)) = false → (decide (Env.v9 v > (9007199254740992 : Int)) =
  true → Q true) ∧ (decide (Env.v9 v > (9007199254740992 : Int)) = false → Q false))) ∧ (Q true → St.pc s = St.pc z ∧ wr IntKind.i64 (St.fuel s - (1 : Int)) = St.fuel z ∧ (13 : Int)
  = St.status z ∧ St.clause s = St.clause z ∧ (St.stack s = St.stack z ∧ (false = true → false = true)) ∧ True) ∧ (Q false → ((0 : Int) ≤ wr IntKind.i64 ((↑(List.length (St.stack s))
  : Int) - (0 : Int)) ∧ wr IntKind.i64 ((↑(List.length (St.stack s)) : Int) - (0 : Int)) = wr IntKind.i64 ((↑(List.length (St.stack s)) : Int) - (0 : Int)) ∧ wr IntKind.i64
  ((↑(List.length (St.stack s)) : Int) - (0 : Int)) ≤ (↑(List.length (St.stack s)) : Int)) ∧ (List.length (List.take (Int.toNat (wr IntKind.i64 ((↑(List.length (St.stack s)) : Int) -
  (0 : Int)))) (St.stack s)) + (1 : Nat)) * (8 : Nat) ≤ (140737488355328 : Nat) ∧ wr IntKind.i64 (St.pc s + (1 : Int)) = St.pc z ∧ wr IntKind.i64 (St.fuel s - (1 : Int)) = St.fuel z
  ∧ St.status s = St.status z ∧ St.clause s = St.clause z ∧ ((0 : Nat) + (List.length (List.take (Int.toNat (wr IntKind.i64 ((↑(List.length (St.stack s)) : Int) - (0 : Int))))
  (St.stack s)) + (1 : Nat)) ≤ List.length (List.take (Int.toNat (wr IntKind.i64 ((↑(List.length (St.stack s)) : Int) - (0 : Int)))) (St.stack s) ++ [Env.v9 v]) ∧ List.take
  (List.length (List.take (Int.toNat (wr IntKind.i64 ((↑(List.length (St.stack s)) : Int) - (0 : Int)))) (St.stack s)) + (1 : Nat)) (List.take (Int.toNat (wr IntKind.i64
  ((↑(List.length (St.stack s)) : Int) - (0 : Int)))) (St.stack s) ++ [Env.v9 v]) = St.stack z) ∧ True)) ∧ ((Ins.n x == (↑((0 : Nat) + (1 : Nat) + (1 : Nat) + (1 : Nat) + (1 : Nat) +
  (1 : Nat) + (1 : Nat) + (1 : Nat) + (1 : Nat) + (1 : Nat)) : Int)) = false → ((Ins.n x == (↑((0 : Nat) + (1 : Nat) + (1 : Nat) + (1 : Nat) + (1 : Nat) + (1 : Nat) + (1 : Nat) + (1
  : Nat) + (1 : Nat) + (1 : Nat) + (1 : Nat)) : Int)) = true → ∃ (Q : Bool → Prop), ((decide (Env.v10 v < (-9007199254740992 : Int)) = true → Q true) ∧ (decide (Env.v10 v <
  (-9007199254740992 : Int)) = false → (decide (Env.v10 v > (9007199254740992 : Int)) = true → Q true) ∧ (decide (Env.v10 v > (9007199254740992 : Int)) = false → Q false))) ∧ (Q true
  → St.pc s = St.pc z ∧ wr IntKind.i64 (St.fuel s - (1 : Int)) = St.fuel z ∧ (13 : Int) = St.status z ∧ St.clause s = St.clause z ∧ (St.stack s = St.stack z ∧ (false = true → false =
  true)) ∧ True) ∧ (Q false → ((0 : Int) ≤ wr IntKind.i64 ((↑(List.length (St.stack s)) : Int) - (0 : Int)) ∧ wr IntKind.i64 ((↑(List.length (St.stack s)) : Int) - (0 : Int)) = wr
  IntKind.i64 ((↑(List.length (St.stack s)) : Int) - (0 : Int)) ∧ wr IntKind.i64 ((↑(List.length (St.stack s)) : Int) - (0 : Int)) ≤ (↑(List.length (St.stack s)) : Int)) ∧
  (List.length (List.take (Int.toNat (wr IntKind.i64 ((↑(List.length (St.stack s)) : Int) - (0 : Int)))) (St.stack s)) + (1 : Nat)) * (8 : Nat) ≤ (140737488355328 : Nat) ∧ wr
  IntKind.i64 (St.pc s + (1 : Int)) = St.pc z ∧ wr IntKind.i64 (St.fuel s - (1 : Int)) = St.fuel z ∧ St.status s = St.status z ∧ St.clause s = St.clause z ∧ ((0 : Nat) + (List.length
  (List.take (Int.toNat (wr IntKind.i64 ((↑(List.length (St.stack s)) : Int) - (0 : Int)))) (St.stack s)) + (1 : Nat)) ≤ List.length (List.take (Int.toNat (wr IntKind.i64
  ((↑(List.length (St.stack s)) : Int) - (0 : Int)))) (St.stack s) ++ [Env.v10 v]) ∧ List.take (List.length (List.take (Int.toNat (wr IntKind.i64 ((↑(List.length (St.stack s)) : Int)
  - (0 : Int)))) (St.stack s)) + (1 : Nat)) (List.take (Int.toNat (wr IntKind.i64 ((↑(List.length (St.stack s)) : Int) - (0 : Int)))) (St.stack s) ++ [Env.v10 v]) = St.stack z) ∧
  True)) ∧ ((Ins.n x == (↑((0 : Nat) + (1 : Nat) + (1 : Nat) + (1 : Nat) + (1 : Nat) + (1 : Nat) + (1 : Nat) + (1 : Nat) + (1 : Nat) + (1 : Nat) + (1 : Nat)) : Int)) = false →
  ((Ins.n x == (↑((0 : Nat) + (1 : Nat) + (1 : Nat) + (1 : Nat) + (1 : Nat) + (1 : Nat) + (1 : Nat) + (1 : Nat) + (1 : Nat) + (1 : Nat) + (1 : Nat) + (1 : Nat)) : Int)) = true → ∃ (Q
  : Bool → Prop), ((decide (Env.v11 v < (-9007199254740992 : Int)) = true → Q true) ∧ (decide (Env.v11 v < (-9007199254740992 : Int)) = false → (decide (Env.v11 v > (9007199254740992
  : Int)) = true → Q true) ∧ (decide (Env.v11 v > (9007199254740992 : Int)) = false → Q false))) ∧ (Q true → St.pc s = St.pc z ∧ wr IntKind.i64 (St.fuel s - (1 : Int)) = St.fuel z ∧
  (13 : Int) = St.status z ∧ St.clause s = St.clause z ∧ (St.stack s = St.stack z ∧ (false = true → false = true)) ∧ True) ∧ (Q false → ((0 : Int) ≤ wr IntKind.i64 ((↑(List.length
  (St.stack s)) : Int) - (0 : Int)) ∧ wr IntKind.i64 ((↑(List.length (St.stack s)) : Int) - (0 : Int)) = wr IntKind.i64 ((↑(List.length (St.stack s)) : Int) - (0 : Int)) ∧ wr
  IntKind.i64 ((↑(List.length (St.stack s)) : Int) - (0 : Int)) ≤ (↑(List.length (St.stack s)) : Int)) ∧ (List.length (List.take (Int.toNat (wr IntKind.i64 ((↑(List.length (St.stack
  s)) : Int) - (0 : Int)))) (St.stack s)) + (1 : Nat)) * (8 : Nat) ≤ (140737488355328 : Nat) ∧ wr IntKind.i64 (St.pc s + (1 : Int)) = St.pc z ∧ wr IntKind.i64 (St.fuel s - (1 : Int))
  = St.fuel z ∧ St.status s = St.status z ∧ St.clause s = St.clause z ∧ ((0 : Nat) + (List.length (List.take (Int.toNat (wr IntKind.i64 ((↑(List.length (St.stack s)) : Int) - (0 :
  Int)))) (St.stack s)) + (1 : Nat)) ≤ List.length (List.take (Int.toNat (wr IntKind.i64 ((↑(List.length (St.stack s)) : Int) - (0 : Int)))) (St.stack s) ++ [Env.v11 v]) ∧ List.take
  (List.length (List.take (Int.toNat (wr IntKind.i64 ((↑(List.length (St.stack s)) : Int) - (0 : Int)))) (St.stack s)) + (1 : Nat)) (List.take (Int.toNat (wr IntKind.i64
  ((↑(List.length (St.stack s)) : Int) - (0 : Int)))) (St.stack s) ++ [Env.v11 v]) = St.stack z) ∧ True)) ∧ ((Ins.n x == (↑((0 : Nat) + (1 : Nat) + (1 : Nat) + (1 : Nat) + (1 : Nat)
  + (1 : Nat) + (1 : Nat) + (1 : Nat) + (1 : Nat) + (1 : Nat) + (1 : Nat) + (1 : Nat)) : Int)) = false → ((Ins.n x == (↑((0 : Nat) + (1 : Nat) + (1 : Nat) + (1 : Nat) + (1 : Nat) +
  (1 : Nat) + (1 : Nat) + (1 : Nat) + (1 : Nat) + (1 : Nat) + (1 : Nat) + (1 : Nat) + (1 : Nat)) : Int)) = true → ∃ (Q : Bool → Prop), ((decide (Env.v12 v < (-9007199254740992 :
  Int)) = true → Q true) ∧ (decide (Env.v12 v < (-9007199254740992 : Int)) = false → (decide (Env.v12 v > (9007199254740992 : Int)) = true → Q true) ∧ (decide (Env.v12 v >
  (9007199254740992 : Int)) = false → Q false))) ∧ (Q true → St.pc s = St.pc z ∧ wr IntKind.i64 (St.fuel s - (1 : Int)) = St.fuel z ∧ (13 : Int) = St.status z ∧ St.clause s =
  St.clause z ∧ (St.stack s = St.stack z ∧ (false = true → false = true)) ∧ True) ∧ (Q false → ((0 : Int) ≤ wr IntKind.i64 ((↑(List.length (St.stack s)) : Int) - (0 : Int)) ∧ wr
  IntKind.i64 ((↑(List.length (St.stack s)) : Int) - (0 : Int)) = wr IntKind.i64 ((↑(List.length (St.stack s)) : Int) - (0 : Int)) ∧ wr IntKind.i64 ((↑(List.length (St.stack s)) :
  Int) - (0 : Int)) ≤ (↑(List.length (St.stack s)) : Int)) ∧ (List.length (List.take (Int.toNat (wr IntKind.i64 ((↑(List.length (St.stack s)) : Int) - (0 : Int)))) (St.stack s)) + (1
  : Nat)) * (8 : Nat) ≤ (140737488355328 : Nat) ∧ wr IntKind.i64 (St.pc s + (1 : Int)) = St.pc z ∧ wr IntKind.i64 (St.fuel s - (1 : Int)) = St.fuel z ∧ St.status s = St.status z ∧
  St.clause s = St.clause z ∧ ((0 : Nat) + (List.length (List.take (Int.toNat (wr IntKind.i64 ((↑(List.length (St.stack s)) : Int) - (0 : Int)))) (St.stack s)) + (1 : Nat)) ≤
  List.length (List.take (Int.toNat (wr IntKind.i64 ((↑(List.length (St.stack s)) : Int) - (0 : Int)))) (St.stack s) ++ [Env.v12 v]) ∧ List.take (List.length (List.take (Int.toNat
  (wr IntKind.i64 ((↑(List.length (St.stack s)) : Int) - (0 : Int)))) (St.stack s)) + (1 : Nat)) (List.take (Int.toNat (wr IntKind.i64 ((↑(List.length (St.stack s)) : Int) - (0 :
  Int)))) (St.stack s) ++ [Env.v12 v]) = St.stack z) ∧ True)) ∧ ((Ins.n x == (↑((0 : Nat) + (1 : Nat) + (1 : Nat) + (1 : Nat) + (1 : Nat) + (1 : Nat) + (1 : Nat) + (1 : Nat) + (1 :
  Nat) + (1 : Nat) + (1 : Nat) + (1 : Nat) + (1 : Nat)) : Int)) = false → ((Ins.n x == (↑((0 : Nat) + (1 : Nat) + (1 : Nat) + (1 : Nat) + (1 : Nat) + (1 : Nat) + (1 : Nat) + (1 :
  Nat) + (1 : Nat) + (1 : Nat) + (1 : Nat) + (1 : Nat) + (1 : Nat) + (1 : Nat)) : Int)) = true → ∃ (Q : Bool → Prop), ((decide (Env.v13 v < (-9007199254740992 : Int)) = true → Q
  true) ∧ (decide (Env.v13 v < (-9007199254740992 : Int)) = false → (decide (Env.v13 v > (9007199254740992 : Int)) = true → Q true) ∧ (decide (Env.v13 v > (9007199254740992 : Int)) =
  false → Q false))) ∧ (Q true → St.pc s = St.pc z ∧ wr IntKind.i64 (St.fuel s - (1 : Int)) = St.fuel z ∧ (13 : Int) = St.status z ∧ St.clause s = St.clause z ∧ (St.stack s =
  St.stack z ∧ (false = true → false = true)) ∧ True) ∧ (Q false → ((0 : Int) ≤ wr IntKind.i64 ((↑(List.length (St.stack s)) : Int) - (0 : Int)) ∧ wr IntKind.i64 ((↑(List.length
  (St.stack s)) : Int) - (0 : Int)) = wr IntKind.i64 ((↑(List.length (St.stack s)) : Int) - (0 : Int)) ∧ wr IntKind.i64 ((↑(List.length (St.stack s)) : Int) - (0 : Int)) ≤
  (↑(List.length (St.stack s)) : Int)) ∧ (List.length (List.take (Int.toNat (wr IntKind.i64 ((↑(List.length (St.stack s)) : Int) - (0 : Int)))) (St.stack s)) + (1 : Nat)) * (8 : Nat)
  ≤ (140737488355328 : Nat) ∧ wr IntKind.i64 (St.pc s + (1 : Int)) = St.pc z ∧ wr IntKind.i64 (St.fuel s - (1 : Int)) = St.fuel z ∧ St.status s = St.status z ∧ St.clause s =
  St.clause z ∧ ((0 : Nat) + (List.length (List.take (Int.toNat (wr IntKind.i64 ((↑(List.length (St.stack s)) : Int) - (0 : Int)))) (St.stack s)) + (1 : Nat)) ≤ List.length
  (List.take (Int.toNat (wr IntKind.i64 ((↑(List.length (St.stack s)) : Int) - (0 : Int)))) (St.stack s) ++ [Env.v13 v]) ∧ List.take (List.length (List.take (Int.toNat (wr
  IntKind.i64 ((↑(List.length (St.stack s)) : Int) - (0 : Int)))) (St.stack s)) + (1 : Nat)) (List.take (Int.toNat (wr IntKind.i64 ((↑(List.length (St.stack s)) : Int) - (0 : Int))))
  (St.stack s) ++ [Env.v13 v]) = St.stack z) ∧ True)) ∧ ((Ins.n x == (↑((0 : Nat) + (1 : Nat) + (1 : Nat) + (1 : Nat) + (1 : Nat) + (1 : Nat) + (1 : Nat) + (1 : Nat) + (1 : Nat) + (1
  : Nat) + (1 : Nat) + (1 : Nat) + (1 : Nat) + (1 : Nat)) : Int)) = false → ((Ins.n x == (↑((0 : Nat) + (1 : Nat) + (1 : Nat) + (1 : Nat) + (1 : Nat) + (1 : Nat) + (1 : Nat) + (1 :
  Nat) + (1 : Nat) + (1 : Nat) + (1 : Nat) + (1 : Nat) + (1 : Nat) + (1 : Nat) + (1 : Nat)) : Int)) = true → ∃ (Q : Bool → Prop), ((decide (Env.v14 v < (-9007199254740992 : Int)) =
  true → Q true) ∧ (decide (Env.v14 v < (-9007199254740992 : Int)) = false → (decide (Env.v14 v > (9007199254740992 : Int)) = true → Q true) ∧ (decide (Env.v14 v > (9007199254740992
  : Int)) = false → Q false))) ∧ (Q true → St.pc s = St.pc z ∧ wr IntKind.i64 (St.fuel s - (1 : Int)) = St.fuel z ∧ (13 : Int) = St.status z ∧ St.clause s = St.clause z ∧ (St.stack s
  = St.stack z ∧ (false = true → false = true)) ∧ True) ∧ (Q false → ((0 : Int) ≤ wr IntKind.i64 ((↑(List.length (St.stack s)) : Int) - (0 : Int)) ∧ wr IntKind.i64 ((↑(List.length
  (St.stack s)) : Int) - (0 : Int)) = wr IntKind.i64 ((↑(List.length (St.stack s)) : Int) - (0 : Int)) ∧ wr IntKind.i64 ((↑(List.length (St.stack s)) : Int) - (0 : Int)) ≤
  (↑(List.length (St.stack s)) : Int)) ∧ (List.length (List.take (Int.toNat (wr IntKind.i64 ((↑(List.length (St.stack s)) : Int) - (0 : Int)))) (St.stack s)) + (1 : Nat)) * (8 : Nat)
  ≤ (140737488355328 : Nat) ∧ wr IntKind.i64 (St.pc s + (1 : Int)) = St.pc z ∧ wr IntKind.i64 (St.fuel s - (1 : Int)) = St.fuel z ∧ St.status s = St.status z ∧ St.clause s =
  St.clause z ∧ ((0 : Nat) + (List.length (List.take (Int.toNat (wr IntKind.i64 ((↑(List.length (St.stack s)) : Int) - (0 : Int)))) (St.stack s)) + (1 : Nat)) ≤ List.length
  (List.take (Int.toNat (wr IntKind.i64 ((↑(List.length (St.stack s)) : Int) - (0 : Int)))) (St.stack s) ++ [Env.v14 v]) ∧ List.take (List.length (List.take (Int.toNat (wr
  IntKind.i64 ((↑(List.length (St.stack s)) : Int) - (0 : Int)))) (St.stack s)) + (1 : Nat)) (List.take (Int.toNat (wr IntKind.i64 ((↑(List.length (St.stack s)) : Int) - (0 : Int))))
  (St.stack s) ++ [Env.v14 v]) = St.stack z) ∧ True)) ∧ ((Ins.n x == (↑((0 : Nat) + (1 : Nat) + (1 : Nat) + (1 : Nat) + (1 : Nat) + (1 : Nat) + (1 : Nat) + (1 : Nat) + (1 : Nat) + (1
  : Nat) + (1 : Nat) + (1 : Nat) + (1 : Nat) + (1 : Nat) + (1 : Nat)) : Int)) = false → ((Ins.n x == (↑((0 : Nat) + (1 : Nat) + (1 : Nat) + (1 : Nat) + (1 : Nat) + (1 : Nat) + (1 :
  Nat) + (1 : Nat) + (1 : Nat) + (1 : Nat) + (1 : Nat) + (1 : Nat) + (1 : Nat) + (1 : Nat) + (1 : Nat) + (1 : Nat)) : Int)) = true → ∃ (Q : Bool → Prop), ((decide (Env.v15 v <
  (-9007199254740992 : Int)) = true → Q true) ∧ (decide (Env.v15 v < (-9007199254740992 : Int)) = false → (decide (Env.v15 v > (9007199254740992 : Int)) = true → Q true) ∧ (decide
  (Env.v15 v > (9007199254740992 : Int)) = false → Q false))) ∧ (Q true → St.pc s = St.pc z ∧ wr IntKind.i64 (St.fuel s - (1 : Int)) = St.fuel z ∧ (13 : Int) = St.status z ∧
  St.clause s = St.clause z ∧ (St.stack s = St.stack z ∧ (false = true → false = true)) ∧ True) ∧ (Q false → ((0 : Int) ≤ wr IntKind.i64 ((↑(List.length (St.stack s)) : Int) - (0 :
  Int)) ∧ wr IntKind.i64 ((↑(List.length (St.stack s)) : Int) - (0 : Int)) = wr IntKind.i64 ((↑(List.length (St.stack s)) : Int) - (0 : Int)) ∧ wr IntKind.i64 ((↑(List.length
  (St.stack s)) : Int) - (0 : Int)) ≤ (↑(List.length (St.stack s)) : Int)) ∧ (List.length (List.take (Int.toNat (wr IntKind.i64 ((↑(List.length (St.stack s)) : Int) - (0 : Int))))
  (St.stack s)) + (1 : Nat)) * (8 : Nat) ≤ (140737488355328 : Nat) ∧ wr IntKind.i64 (St.pc s + (1 : Int)) = St.pc z ∧ wr IntKind.i64 (St.fuel s - (1 : Int)) = St.fuel z ∧ St.status s
  = St.status z ∧ St.clause s = St.clause z ∧ ((0 : Nat) + (List.length (List.take (Int.toNat (wr IntKind.i64 ((↑(List.length (St.stack s)) : Int) - (0 : Int)))) (St.stack s)) + (1 :
  Nat)) ≤ List.length (List.take (Int.toNat (wr IntKind.i64 ((↑(List.length (St.stack s)) : Int) - (0 : Int)))) (St.stack s) ++ [Env.v15 v]) ∧ List.take (List.length (List.take
  (Int.toNat (wr IntKind.i64 ((↑(List.length (St.stack s)) : Int) - (0 : Int)))) (St.stack s)) + (1 : Nat)) (List.take (Int.toNat (wr IntKind.i64 ((↑(List.length (St.stack s)) : Int)
  - (0 : Int)))) (St.stack s) ++ [Env.v15 v]) = St.stack z) ∧ True)) ∧ ((Ins.n x == (↑((0 : Nat) + (1 : Nat) + (1 : Nat) + (1 : Nat) + (1 : Nat) + (1 : Nat) + (1 : Nat) + (1 : Nat) +
  (1 : Nat) + (1 : Nat) + (1 : Nat) + (1 : Nat) + (1 : Nat) + (1 : Nat) + (1 : Nat) + (1 : Nat)) : Int)) = false → True))))))))))))))))))) ∧ ((Ins.op x == (2 : Int)) = false →
  ((Ins.op x == (12 : Int)) = true → (0 : Int) ≤ wr IntKind.i64 (wr IntKind.i64 ((↑(List.length (St.stack s)) : Int) - (1 : Int)) - (0 : Int)) ∧ wr IntKind.i64 (wr IntKind.i64
  ((↑(List.length (St.stack s)) : Int) - (1 : Int)) - (0 : Int)) + (1 : Int) ≤ (↑(List.length (St.stack s)) : Int) ∧ ∀ (x_1 : Int), (St.stack s)[Int.toNat (wr IntKind.i64 (wr
  IntKind.i64 ((↑(List.length (St.stack s)) : Int) - (1 : Int)) - (0 : Int)))]? = some x_1 → (decide (Ins.n x ≤ x_1) = true → (0 : Int) ≤ wr IntKind.i64 (wr IntKind.i64
  ((↑(List.length (St.stack s)) : Int) - (1 : Int)) - (0 : Int)) ∧ wr IntKind.i64 (wr IntKind.i64 ((↑(List.length (St.stack s)) : Int) - (1 : Int)) - (0 : Int)) + (1 : Int) ≤
  (↑(List.length (St.stack s)) : Int) ∧ ∀ (x_2 : Int), (St.stack s)[Int.toNat (wr IntKind.i64 (wr IntKind.i64 ((↑(List.length (St.stack s)) : Int) - (1 : Int)) - (0 : Int)))]? = some
  x_2 → (decide (x_2 ≤ Ins.m x) = true → ((0 : Int) ≤ wr IntKind.i64 ((↑(List.length (St.stack s)) : Int) - (1 : Int)) ∧ wr IntKind.i64 ((↑(List.length (St.stack s)) : Int) - (1 :
  Int)) = wr IntKind.i64 ((↑(List.length (St.stack s)) : Int) - (1 : Int)) ∧ wr IntKind.i64 ((↑(List.length (St.stack s)) : Int) - (1 : Int)) ≤ (↑(List.length (St.stack s)) : Int)) ∧
  (List.length (List.take (Int.toNat (wr IntKind.i64 ((↑(List.length (St.stack s)) : Int) - (1 : Int)))) (St.stack s)) + (1 : Nat)) * (8 : Nat) ≤ (140737488355328 : Nat) ∧ wr
  IntKind.i64 (St.pc s + (1 : Int)) = St.pc z ∧ wr IntKind.i64 (St.fuel s - (1 : Int)) = St.fuel z ∧ St.status s = St.status z ∧ St.clause s = St.clause z ∧ ((0 : Nat) + (List.length
  (List.take (Int.toNat (wr IntKind.i64 ((↑(List.length (St.stack s)) : Int) - (1 : Int)))) (St.stack s)) + (1 : Nat)) ≤ List.length (List.take (Int.toNat (wr IntKind.i64
  ((↑(List.length (St.stack s)) : Int) - (1 : Int)))) (St.stack s) ++ [(1 : Int)]) ∧ List.take (List.length (List.take (Int.toNat (wr IntKind.i64 ((↑(List.length (St.stack s)) : Int)
  - (1 : Int)))) (St.stack s)) + (1 : Nat)) (List.take (Int.toNat (wr IntKind.i64 ((↑(List.length (St.stack s)) : Int) - (1 : Int)))) (St.stack s) ++ [(1 : Int)]) = St.stack z) ∧
  True) ∧ (decide (x_2 ≤ Ins.m x) = false → ((0 : Int) ≤ wr IntKind.i64 ((↑(List.length (St.stack s)) : Int) - (1 : Int)) ∧ wr IntKind.i64 ((↑(List.length (St.stack s)) : Int) - (1 :
  Int)) = wr IntKind.i64 ((↑(List.length (St.stack s)) : Int) - (1 : Int)) ∧ wr IntKind.i64 ((↑(List.length (St.stack s)) : Int) - (1 : Int)) ≤ (↑(List.length (St.stack s)) : Int)) ∧
  (List.length (List.take (Int.toNat (wr IntKind.i64 ((↑(List.length (St.stack s)) : Int) - (1 : Int)))) (St.stack s)) + (1 : Nat)) * (8 : Nat) ≤ (140737488355328 : Nat) ∧ wr
  IntKind.i64 (St.pc s + (1 : Int)) = St.pc z ∧ wr IntKind.i64 (St.fuel s - (1 : Int)) = St.fuel z ∧ St.status s = St.status z ∧ St.clause s = St.clause z ∧ ((0 : Nat) + (List.length
  (List.take (Int.toNat (wr IntKind.i64 ((↑(List.length (St.stack s)) : Int) - (1 : Int)))) (St.stack s)) + (1 : Nat)) ≤ List.length (List.take (Int.toNat (wr IntKind.i64
  ((↑(List.length (St.stack s)) : Int) - (1 : Int)))) (St.stack s) ++ [(0 : Int)]) ∧ List.take (List.length (List.take (Int.toNat (wr IntKind.i64 ((↑(List.length (St.stack s)) : Int)
  - (1 : Int)))) (St.stack s)) + (1 : Nat)) (List.take (Int.toNat (wr IntKind.i64 ((↑(List.length (St.stack s)) : Int) - (1 : Int)))) (St.stack s) ++ [(0 : Int)]) = St.stack z) ∧
  True)) ∧ (decide (Ins.n x ≤ x_1) = false → ((0 : Int) ≤ wr IntKind.i64 ((↑(List.length (St.stack s)) : Int) - (1 : Int)) ∧ wr IntKind.i64 ((↑(List.length (St.stack s)) : Int) - (1
  : Int)) = wr IntKind.i64 ((↑(List.length (St.stack s)) : Int) - (1 : Int)) ∧ wr IntKind.i64 ((↑(List.length (St.stack s)) : Int) - (1 : Int)) ≤ (↑(List.length (St.stack s)) : Int))
  ∧ (List.length (List.take (Int.toNat (wr IntKind.i64 ((↑(List.length (St.stack s)) : Int) - (1 : Int)))) (St.stack s)) + (1 : Nat)) * (8 : Nat) ≤ (140737488355328 : Nat) ∧ wr
  IntKind.i64 (St.pc s + (1 : Int)) = St.pc z ∧ wr IntKind.i64 (St.fuel s - (1 : Int)) = St.fuel z ∧ St.status s = St.status z ∧ St.clause s = St.clause z ∧ ((0 : Nat) + (List.length
  (List.take (Int.toNat (wr IntKind.i64 ((↑(List.length (St.stack s)) : Int) - (1 : Int)))) (St.stack s)) + (1 : Nat)) ≤ List.length (List.take (Int.toNat (wr IntKind.i64
  ((↑(List.length (St.stack s)) : Int) - (1 : Int)))) (St.stack s) ++ [(0 : Int)]) ∧ List.take (List.length (List.take (Int.toNat (wr IntKind.i64 ((↑(List.length (St.stack s)) : Int)
  - (1 : Int)))) (St.stack s)) + (1 : Nat)) (List.take (Int.toNat (wr IntKind.i64 ((↑(List.length (St.stack s)) : Int) - (1 : Int)))) (St.stack s) ++ [(0 : Int)]) = St.stack z) ∧
  True)) ∧ ((Ins.op x == (12 : Int)) = false → ((Ins.op x == (13 : Int)) = true → (0 : Int) ≤ wr IntKind.i64 (wr IntKind.i64 ((↑(List.length (St.stack s)) : Int) - (1 : Int)) - (0 :
  Int)) ∧ wr IntKind.i64 (wr IntKind.i64 ((↑(List.length (St.stack s)) : Int) - (1 : Int)) - (0 : Int)) + (1 : Int) ≤ (↑(List.length (St.stack s)) : Int) ∧ ∀ (x_1 : Int), (St.stack
  s)[Int.toNat (wr IntKind.i64 (wr IntKind.i64 ((↑(List.length (St.stack s)) : Int) - (1 : Int)) - (0 : Int)))]? = some x_1 → ((0 : Int) ≤ wr IntKind.i64 ((↑(List.length (St.stack
  s)) : Int) - (1 : Int)) ∧ wr IntKind.i64 ((↑(List.length (St.stack s)) : Int) - (1 : Int)) = wr IntKind.i64 ((↑(List.length (St.stack s)) : Int) - (1 : Int)) ∧ wr IntKind.i64
  ((↑(List.length (St.stack s)) : Int) - (1 : Int)) ≤ (↑(List.length (St.stack s)) : Int)) ∧ ((x_1 == (0 : Int)) = true → Ins.n x = St.pc z ∧ wr IntKind.i64 (St.fuel s - (1 : Int)) =
  St.fuel z ∧ St.status s = St.status z ∧ St.clause s = St.clause z ∧ (List.take (Int.toNat (wr IntKind.i64 ((↑(List.length (St.stack s)) : Int) - (1 : Int)))) (St.stack s) =
  St.stack z ∧ (false = true → true = true)) ∧ True) ∧ ((x_1 == (0 : Int)) = false → wr IntKind.i64 (St.pc s + (1 : Int)) = St.pc z ∧ wr IntKind.i64 (St.fuel s - (1 : Int)) = St.fuel
  z ∧ St.status s = St.status z ∧ St.clause s = St.clause z ∧ (List.take (Int.toNat (wr IntKind.i64 ((↑(List.length (St.stack s)) : Int) - (1 : Int)))) (St.stack s) = St.stack z ∧
  (false = true → true = true)) ∧ True)) ∧ ((Ins.op x == (13 : Int)) = false → ((Ins.op x == (14 : Int)) = true → Ins.n x = St.pc z ∧ wr IntKind.i64 (St.fuel s - (1 : Int)) = St.fuel
  z ∧ St.status s = St.status z ∧ St.clause s = St.clause z ∧ (St.stack s = St.stack z ∧ (false = true → false = true)) ∧ True) ∧ ((Ins.op x == (14 : Int)) = false → ((Ins.op x ==
  (15 : Int)) = true → St.pc s = St.pc z ∧ wr IntKind.i64 (St.fuel s - (1 : Int)) = St.fuel z ∧ (1 : Int) = St.status z ∧ Ins.n x = St.clause z ∧ (St.stack s = St.stack z ∧ (false =
  true → false = true)) ∧ True) ∧ ((Ins.op x == (15 : Int)) = false → ((Ins.op x == (16 : Int)) = true → St.pc s = St.pc z ∧ wr IntKind.i64 (St.fuel s - (1 : Int)) = St.fuel z ∧ (190
  : Int) = St.status z ∧ St.clause s = St.clause z ∧ (St.stack s = St.stack z ∧ (false = true → false = true)) ∧ True) ∧ ((Ins.op x == (16 : Int)) = false → ((Ins.op x == (↑(3 : Nat)
  : Int)) = true → (0 : Int) ≤ wr IntKind.i64 (wr IntKind.i64 ((↑(List.length (St.stack s)) : Int) - (1 : Int)) - (1 : Int)) ∧ wr IntKind.i64 (wr IntKind.i64 ((↑(List.length
  (St.stack s)) : Int) - (1 : Int)) - (1 : Int)) + (1 : Int) ≤ (↑(List.length (St.stack s)) : Int) ∧ ∀ (x : Int), (St.stack s)[Int.toNat (wr IntKind.i64 (wr IntKind.i64
  ((↑(List.length (St.stack s)) : Int) - (1 : Int)) - (1 : Int)))]? = some x → (0 : Int) ≤ wr IntKind.i64 (wr IntKind.i64 ((↑(List.length (St.stack s)) : Int) - (1 : Int)) - (0 :
  Int)) ∧ wr IntKind.i64 (wr IntKind.i64 ((↑(List.length (St.stack s)) : Int) - (1 : Int)) - (0 : Int)) + (1 : Int) ≤ (↑(List.length (St.stack s)) : Int) ∧ ∀ (x_1 : Int), (St.stack
  s)[Int.toNat (wr IntKind.i64 (wr IntKind.i64 ((↑(List.length (St.stack s)) : Int) - (1 : Int)) - (0 : Int)))]? = some x_1 → True ∧ ((Prod.snd (addF x x_1) != (0 : Int)) = true →
  ((Prod.snd (addF x x_1) != (0 : Int)) = true → St.pc s = St.pc z ∧ wr IntKind.i64 (St.fuel s - (1 : Int)) = St.fuel z ∧ wr IntKind.i64 ((10 : Int) + Prod.snd (addF x x_1)) =
  St.status z ∧ St.clause s = St.clause z ∧ (St.stack s = St.stack z ∧ (false = true → false = true)) ∧ True) ∧ ((Prod.snd (addF x x_1) != (0 : Int)) = false → St.pc s = St.pc z ∧ wr
  IntKind.i64 (St.fuel s - (1 : Int)) = St.fuel z ∧ St.status s = St.status z ∧ St.clause s = St.clause z ∧ (St.stack s = St.stack z ∧ (false = true → false = true)) ∧ True)) ∧
  ((Prod.snd (addF x x_1) != (0 : Int)) = false → ((0 : Int) ≤ wr IntKind.i64 ((↑(List.length (St.stack s)) : Int) - (2 : Int)) ∧ wr IntKind.i64 ((↑(List.length (St.stack s)) : Int)
  - (2 : Int)) = wr IntKind.i64 ((↑(List.length (St.stack s)) : Int) - (2 : Int)) ∧ wr IntKind.i64 ((↑(List.length (St.stack s)) : Int) - (2 : Int)) ≤ (↑(List.length (St.stack s)) :
  Int)) ∧ (List.length (List.take (Int.toNat (wr IntKind.i64 ((↑(List.length (St.stack s)) : Int) - (2 : Int)))) (St.stack s)) + (1 : Nat)) * (8 : Nat) ≤ (140737488355328 : Nat) ∧ wr
  IntKind.i64 (St.pc s + (1 : Int)) = St.pc z ∧ wr IntKind.i64 (St.fuel s - (1 : Int)) = St.fuel z ∧ St.status s = St.status z ∧ St.clause s = St.clause z ∧ ((0 : Nat) + (List.length
  (List.take (Int.toNat (wr IntKind.i64 ((↑(List.length (St.stack s)) : Int) - (2 : Int)))) (St.stack s)) + (1 : Nat)) ≤ List.length (List.take (Int.toNat (wr IntKind.i64
  ((↑(List.length (St.stack s)) : Int) - (2 : Int)))) (St.stack s) ++ [Prod.fst (addF x x_1)]) ∧ List.take (List.length (List.take (Int.toNat (wr IntKind.i64 ((↑(List.length
  (St.stack s)) : Int) - (2 : Int)))) (St.stack s)) + (1 : Nat)) (List.take (Int.toNat (wr IntKind.i64 ((↑(List.length (St.stack s)) : Int) - (2 : Int)))) (St.stack s) ++ [Prod.fst
  (addF x x_1)]) = St.stack z) ∧ True)) ∧ ((Ins.op x == (↑(3 : Nat) : Int)) = false → ((Ins.op x == (↑(4 : Nat) : Int)) = true → (0 : Int) ≤ wr IntKind.i64 (wr IntKind.i64
  ((↑(List.length (St.stack s)) : Int) - (1 : Int)) - (1 : Int)) ∧ wr IntKind.i64 (wr IntKind.i64 ((↑(List.length (St.stack s)) : Int) - (1 : Int)) - (1 : Int)) + (1 : Int) ≤
  (↑(List.length (St.stack s)) : Int) ∧ ∀ (x : Int), (St.stack s)[Int.toNat (wr IntKind.i64 (wr IntKind.i64 ((↑(List.length (St.stack s)) : Int) - (1 : Int)) - (1 : Int)))]? = some x
  → (0 : Int) ≤ wr IntKind.i64 (wr IntKind.i64 ((↑(List.length (St.stack s)) : Int) - (1 : Int)) - (0 : Int)) ∧ wr IntKind.i64 (wr IntKind.i64 ((↑(List.length (St.stack s)) : Int) -
  (1 : Int)) - (0 : Int)) + (1 : Int) ≤ (↑(List.length (St.stack s)) : Int) ∧ ∀ (x_1 : Int), (St.stack s)[Int.toNat (wr IntKind.i64 (wr IntKind.i64 ((↑(List.length (St.stack s)) :
  Int) - (1 : Int)) - (0 : Int)))]? = some x_1 → True ∧ ((Prod.snd (subF x x_1) != (0 : Int)) = true → ((Prod.snd (subF x x_1) != (0 : Int)) = true → St.pc s = St.pc z ∧ wr
  IntKind.i64 (St.fuel s - (1 : Int)) = St.fuel z ∧ wr IntKind.i64 ((10 : Int) + Prod.snd (subF x x_1)) = St.status z ∧ St.clause s = St.clause z ∧ (St.stack s = St.stack z ∧ (false
  = true → false = true)) ∧ True) ∧ ((Prod.snd (subF x x_1) != (0 : Int)) = false → St.pc s = St.pc z ∧ wr IntKind.i64 (St.fuel s - (1 : Int)) = St.fuel z ∧ St.status s = St.status z
  ∧ St.clause s = St.clause z ∧ (St.stack s = St.stack z ∧ (false = true → false = true)) ∧ True)) ∧ ((Prod.snd (subF x x_1) != (0 : Int)) = false → ((0 : Int) ≤ wr IntKind.i64
  ((↑(List.length (St.stack s)) : Int) - (2 : Int)) ∧ wr IntKind.i64 ((↑(List.length (St.stack s)) : Int) - (2 : Int)) = wr IntKind.i64 ((↑(List.length (St.stack s)) : Int) - (2 :
  Int)) ∧ wr IntKind.i64 ((↑(List.length (St.stack s)) : Int) - (2 : Int)) ≤ (↑(List.length (St.stack s)) : Int)) ∧ (List.length (List.take (Int.toNat (wr IntKind.i64 ((↑(List.length
  (St.stack s)) : Int) - (2 : Int)))) (St.stack s)) + (1 : Nat)) * (8 : Nat) ≤ (140737488355328 : Nat) ∧ wr IntKind.i64 (St.pc s + (1 : Int)) = St.pc z ∧ wr IntKind.i64 (St.fuel s -
  (1 : Int)) = St.fuel z ∧ St.status s = St.status z ∧ St.clause s = St.clause z ∧ ((0 : Nat) + (List.length (List.take (Int.toNat (wr IntKind.i64 ((↑(List.length (St.stack s)) :
  Int) - (2 : Int)))) (St.stack s)) + (1 : Nat)) ≤ List.length (List.take (Int.toNat (wr IntKind.i64 ((↑(List.length (St.stack s)) : Int) - (2 : Int)))) (St.stack s) ++ [Prod.fst
  (subF x x_1)]) ∧ List.take (List.length (List.take (Int.toNat (wr IntKind.i64 ((↑(List.length (St.stack s)) : Int) - (2 : Int)))) (St.stack s)) + (1 : Nat)) (List.take (Int.toNat
  (wr IntKind.i64 ((↑(List.length (St.stack s)) : Int) - (2 : Int)))) (St.stack s) ++ [Prod.fst (subF x x_1)]) = St.stack z) ∧ True)) ∧ ((Ins.op x == (↑(4 : Nat) : Int)) = false →
  ((Ins.op x == (↑(5 : Nat) : Int)) = true → (0 : Int) ≤ wr IntKind.i64 (wr IntKind.i64 ((↑(List.length (St.stack s)) : Int) - (1 : Int)) - (1 : Int)) ∧ wr IntKind.i64 (wr
  IntKind.i64 ((↑(List.length (St.stack s)) : Int) - (1 : Int)) - (1 : Int)) + (1 : Int) ≤ (↑(List.length (St.stack s)) : Int) ∧ ∀ (x : Int), (St.stack s)[Int.toNat (wr IntKind.i64
  (wr IntKind.i64 ((↑(List.length (St.stack s)) : Int) - (1 : Int)) - (1 : Int)))]? = some x → (0 : Int) ≤ wr IntKind.i64 (wr IntKind.i64 ((↑(List.length (St.stack s)) : Int) - (1 :
  Int)) - (0 : Int)) ∧ wr IntKind.i64 (wr IntKind.i64 ((↑(List.length (St.stack s)) : Int) - (1 : Int)) - (0 : Int)) + (1 : Int) ≤ (↑(List.length (St.stack s)) : Int) ∧ ∀ (x_1 :
  Int), (St.stack s)[Int.toNat (wr IntKind.i64 (wr IntKind.i64 ((↑(List.length (St.stack s)) : Int) - (1 : Int)) - (0 : Int)))]? = some x_1 → True ∧ ((Prod.snd (mulF x x_1) != (0 :
  Int)) = true → ((Prod.snd (mulF x x_1) != (0 : Int)) = true → St.pc s = St.pc z ∧ wr IntKind.i64 (St.fuel s - (1 : Int)) = St.fuel z ∧ wr IntKind.i64 ((10 : Int) + Prod.snd (mulF x
  x_1)) = St.status z ∧ St.clause s = St.clause z ∧ (St.stack s = St.stack z ∧ (false = true → false = true)) ∧ True) ∧ ((Prod.snd (mulF x x_1) != (0 : Int)) = false → St.pc s =
  St.pc z ∧ wr IntKind.i64 (St.fuel s - (1 : Int)) = St.fuel z ∧ St.status s = St.status z ∧ St.clause s = St.clause z ∧ (St.stack s = St.stack z ∧ (false = true → false = true)) ∧
  True)) ∧ ((Prod.snd (mulF x x_1) != (0 : Int)) = false → ((0 : Int) ≤ wr IntKind.i64 ((↑(List.length (St.stack s)) : Int) - (2 : Int)) ∧ wr IntKind.i64 ((↑(List.length (St.stack
  s)) : Int) - (2 : Int)) = wr IntKind.i64 ((↑(List.length (St.stack s)) : Int) - (2 : Int)) ∧ wr IntKind.i64 ((↑(List.length (St.stack s)) : Int) - (2 : Int)) ≤ (↑(List.length
  (St.stack s)) : Int)) ∧ (List.length (List.take (Int.toNat (wr IntKind.i64 ((↑(List.length (St.stack s)) : Int) - (2 : Int)))) (St.stack s)) + (1 : Nat)) * (8 : Nat) ≤
  (140737488355328 : Nat) ∧ wr IntKind.i64 (St.pc s + (1 : Int)) = St.pc z ∧ wr IntKind.i64 (St.fuel s - (1 : Int)) = St.fuel z ∧ St.status s = St.status z ∧ St.clause s = St.clause
  z ∧ ((0 : Nat) + (List.length (List.take (Int.toNat (wr IntKind.i64 ((↑(List.length (St.stack s)) : Int) - (2 : Int)))) (St.stack s)) + (1 : Nat)) ≤ List.length (List.take
  (Int.toNat (wr IntKind.i64 ((↑(List.length (St.stack s)) : Int) - (2 : Int)))) (St.stack s) ++ [Prod.fst (mulF x x_1)]) ∧ List.take (List.length (List.take (Int.toNat (wr
  IntKind.i64 ((↑(List.length (St.stack s)) : Int) - (2 : Int)))) (St.stack s)) + (1 : Nat)) (List.take (Int.toNat (wr IntKind.i64 ((↑(List.length (St.stack s)) : Int) - (2 : Int))))
  (St.stack s) ++ [Prod.fst (mulF x x_1)]) = St.stack z) ∧ True)) ∧ ((Ins.op x == (↑(5 : Nat) : Int)) = false → ((Ins.op x == (↑(6 : Nat) : Int)) = true → (0 : Int) ≤ wr IntKind.i64
  (wr IntKind.i64 ((↑(List.length (St.stack s)) : Int) - (1 : Int)) - (1 : Int)) ∧ wr IntKind.i64 (wr IntKind.i64 ((↑(List.length (St.stack s)) : Int) - (1 : Int)) - (1 : Int)) + (1
  : Int) ≤ (↑(List.length (St.stack s)) : Int) ∧ ∀ (x : Int), (St.stack s)[Int.toNat (wr IntKind.i64 (wr IntKind.i64 ((↑(List.length (St.stack s)) : Int) - (1 : Int)) - (1 : Int)))]?
  = some x → (0 : Int) ≤ wr IntKind.i64 (wr IntKind.i64 ((↑(List.length (St.stack s)) : Int) - (1 : Int)) - (0 : Int)) ∧ wr IntKind.i64 (wr IntKind.i64 ((↑(List.length (St.stack s))
  : Int) - (1 : Int)) - (0 : Int)) + (1 : Int) ≤ (↑(List.length (St.stack s)) : Int) ∧ ∀ (x_1 : Int), (St.stack s)[Int.toNat (wr IntKind.i64 (wr IntKind.i64 ((↑(List.length (St.stack
  s)) : Int) - (1 : Int)) - (0 : Int)))]? = some x_1 → ((0 : Int) ≤ wr IntKind.i64 ((↑(List.length (St.stack s)) : Int) - (2 : Int)) ∧ wr IntKind.i64 ((↑(List.length (St.stack s)) :
  Int) - (2 : Int)) = wr IntKind.i64 ((↑(List.length (St.stack s)) : Int) - (2 : Int)) ∧ wr IntKind.i64 ((↑(List.length (St.stack s)) : Int) - (2 : Int)) ≤ (↑(List.length (St.stack
  s)) : Int)) ∧ (List.length (List.take (Int.toNat (wr IntKind.i64 ((↑(List.length (St.stack s)) : Int) - (2 : Int)))) (St.stack s)) + (1 : Nat)) * (8 : Nat) ≤ (140737488355328 :
  Nat) ∧ wr IntKind.i64 (St.pc s + (1 : Int)) = St.pc z ∧ wr IntKind.i64 (St.fuel s - (1 : Int)) = St.fuel z ∧ St.status s = St.status z ∧ St.clause s = St.clause z ∧ ((0 : Nat) +
  (List.length (List.take (Int.toNat (wr IntKind.i64 ((↑(List.length (St.stack s)) : Int) - (2 : Int)))) (St.stack s)) + (1 : Nat)) ≤ List.length (List.take (Int.toNat (wr
  IntKind.i64 ((↑(List.length (St.stack s)) : Int) - (2 : Int)))) (St.stack s) ++ [mm2 false x x_1]) ∧ List.take (List.length (List.take (Int.toNat (wr IntKind.i64 ((↑(List.length
  (St.stack s)) : Int) - (2 : Int)))) (St.stack s)) + (1 : Nat)) (List.take (Int.toNat (wr IntKind.i64 ((↑(List.length (St.stack s)) : Int) - (2 : Int)))) (St.stack s) ++ [mm2 false
  x x_1]) = St.stack z) ∧ True) ∧ ((Ins.op x == (↑(6 : Nat) : Int)) = false → ((Ins.op x == (↑(7 : Nat) : Int)) = true → (0 : Int) ≤ wr IntKind.i64 (wr IntKind.i64 ((↑(List.length
  (St.stack s)) : Int) - (1 : Int)) - (1 : Int)) ∧ wr IntKind.i64 (wr IntKind.i64 ((↑(List.length (St.stack s)) : Int) - (1 : Int)) - (1 : Int)) + (1 : Int) ≤ (↑(List.length
  (St.stack s)) : Int) ∧ ∀ (x : Int), (St.stack s)[Int.toNat (wr IntKind.i64 (wr IntKind.i64 ((↑(List.length (St.stack s)) : Int) - (1 : Int)) - (1 : Int)))]? = some x → (0 : Int) ≤
  wr IntKind.i64 (wr IntKind.i64 ((↑(List.length (St.stack s)) : Int) - (1 : Int)) - (0 : Int)) ∧ wr IntKind.i64 (wr IntKind.i64 ((↑(List.length (St.stack s)) : Int) - (1 : Int)) -
  (0 : Int)) + (1 : Int) ≤ (↑(List.length (St.stack s)) : Int) ∧ ∀ (x_1 : Int), (St.stack s)[Int.toNat (wr IntKind.i64 (wr IntKind.i64 ((↑(List.length (St.stack s)) : Int) - (1 :
  Int)) - (0 : Int)))]? = some x_1 → ((0 : Int) ≤ wr IntKind.i64 ((↑(List.length (St.stack s)) : Int) - (2 : Int)) ∧ wr IntKind.i64 ((↑(List.length (St.stack s)) : Int) - (2 : Int))
  = wr IntKind.i64 ((↑(List.length (St.stack s)) : Int) - (2 : Int)) ∧ wr IntKind.i64 ((↑(List.length (St.stack s)) : Int) - (2 : Int)) ≤ (↑(List.length (St.stack s)) : Int)) ∧
  (List.length (List.take (Int.toNat (wr IntKind.i64 ((↑(List.length (St.stack s)) : Int) - (2 : Int)))) (St.stack s)) + (1 : Nat)) * (8 : Nat) ≤ (140737488355328 : Nat) ∧ wr
  IntKind.i64 (St.pc s + (1 : Int)) = St.pc z ∧ wr IntKind.i64 (St.fuel s - (1 : Int)) = St.fuel z ∧ St.status s = St.status z ∧ St.clause s = St.clause z ∧ ((0 : Nat) + (List.length
  (List.take (Int.toNat (wr IntKind.i64 ((↑(List.length (St.stack s)) : Int) - (2 : Int)))) (St.stack s)) + (1 : Nat)) ≤ List.length (List.take (Int.toNat (wr IntKind.i64
  ((↑(List.length (St.stack s)) : Int) - (2 : Int)))) (St.stack s) ++ [mm2 true x x_1]) ∧ List.take (List.length (List.take (Int.toNat (wr IntKind.i64 ((↑(List.length (St.stack s)) :
  Int) - (2 : Int)))) (St.stack s)) + (1 : Nat)) (List.take (Int.toNat (wr IntKind.i64 ((↑(List.length (St.stack s)) : Int) - (2 : Int)))) (St.stack s) ++ [mm2 true x x_1]) =
  St.stack z) ∧ True) ∧ ((Ins.op x == (↑(7 : Nat) : Int)) = false → ((Ins.op x == (↑(8 : Nat) : Int)) = true → (0 : Int) ≤ wr IntKind.i64 (wr IntKind.i64 ((↑(List.length (St.stack
  s)) : Int) - (1 : Int)) - (1 : Int)) ∧ wr IntKind.i64 (wr IntKind.i64 ((↑(List.length (St.stack s)) : Int) - (1 : Int)) - (1 : Int)) + (1 : Int) ≤ (↑(List.length (St.stack s)) :
  Int) ∧ ∀ (x : Int), (St.stack s)[Int.toNat (wr IntKind.i64 (wr IntKind.i64 ((↑(List.length (St.stack s)) : Int) - (1 : Int)) - (1 : Int)))]? = some x → (0 : Int) ≤ wr IntKind.i64
  (wr IntKind.i64 ((↑(List.length (St.stack s)) : Int) - (1 : Int)) - (0 : Int)) ∧ wr IntKind.i64 (wr IntKind.i64 ((↑(List.length (St.stack s)) : Int) - (1 : Int)) - (0 : Int)) + (1
  : Int) ≤ (↑(List.length (St.stack s)) : Int) ∧ ∀ (x_1 : Int), (St.stack s)[Int.toNat (wr IntKind.i64 (wr IntKind.i64 ((↑(List.length (St.stack s)) : Int) - (1 : Int)) - (0 :
  Int)))]? = some x_1 → True ∧ ((Prod.snd (divF x x_1 (8 : Int)) != (0 : Int)) = true → ((Prod.snd (divF x x_1 (8 : Int)) != (0 : Int)) = true → St.pc s = St.pc z ∧ wr IntKind.i64
  (St.fuel s - (1 : Int)) = St.fuel z ∧ wr IntKind.i64 ((10 : Int) + Prod.snd (divF x x_1 (8 : Int))) = St.status z ∧ St.clause s = St.clause z ∧ (St.stack s = St.stack z ∧ (false =
  true → false = true)) ∧ True) ∧ ((Prod.snd (divF x x_1 (8 : Int)) != (0 : Int)) = false → St.pc s = St.pc z ∧ wr IntKind.i64 (St.fuel s - (1 : Int)) = St.fuel z ∧ St.status s =
  St.status z ∧ St.clause s = St.clause z ∧ (St.stack s = St.stack z ∧ (false = true → false = true)) ∧ True)) ∧ ((Prod.snd (divF x x_1 (8 : Int)) != (0 : Int)) = false → ((0 : Int)
  ≤ wr IntKind.i64 ((↑(List.length (St.stack s)) : Int) - (2 : Int)) ∧ wr IntKind.i64 ((↑(List.length (St.stack s)) : Int) - (2 : Int)) = wr IntKind.i64 ((↑(List.length (St.stack s))
  : Int) - (2 : Int)) ∧ wr IntKind.i64 ((↑(List.length (St.stack s)) : Int) - (2 : Int)) ≤ (↑(List.length (St.stack s)) : Int)) ∧ (List.length (List.take (Int.toNat (wr IntKind.i64
  ((↑(List.length (St.stack s)) : Int) - (2 : Int)))) (St.stack s)) + (1 : Nat)) * (8 : Nat) ≤ (140737488355328 : Nat) ∧ wr IntKind.i64 (St.pc s + (1 : Int)) = St.pc z ∧ wr
  IntKind.i64 (St.fuel s - (1 : Int)) = St.fuel z ∧ St.status s = St.status z ∧ St.clause s = St.clause z ∧ ((0 : Nat) + (List.length (List.take (Int.toNat (wr IntKind.i64
  ((↑(List.length (St.stack s)) : Int) - (2 : Int)))) (St.stack s)) + (1 : Nat)) ≤ List.length (List.take (Int.toNat (wr IntKind.i64 ((↑(List.length (St.stack s)) : Int) - (2 :
  Int)))) (St.stack s) ++ [Prod.fst (divF x x_1 (8 : Int))]) ∧ List.take (List.length (List.take (Int.toNat (wr IntKind.i64 ((↑(List.length (St.stack s)) : Int) - (2 : Int))))
  (St.stack s)) + (1 : Nat)) (List.take (Int.toNat (wr IntKind.i64 ((↑(List.length (St.stack s)) : Int) - (2 : Int)))) (St.stack s) ++ [Prod.fst (divF x x_1 (8 : Int))]) = St.stack
  z) ∧ True)) ∧ ((Ins.op x == (↑(8 : Nat) : Int)) = false → ((Ins.op x == (↑(9 : Nat) : Int)) = true → (0 : Int) ≤ wr IntKind.i64 (wr IntKind.i64 ((↑(List.length (St.stack s)) : Int)
  - (1 : Int)) - (1 : Int)) ∧ wr IntKind.i64 (wr IntKind.i64 ((↑(List.length (St.stack s)) : Int) - (1 : Int)) - (1 : Int)) + (1 : Int) ≤ (↑(List.length (St.stack s)) : Int) ∧ ∀ (x :
  Int), (St.stack s)[Int.toNat (wr IntKind.i64 (wr IntKind.i64 ((↑(List.length (St.stack s)) : Int) - (1 : Int)) - (1 : Int)))]? = some x → (0 : Int) ≤ wr IntKind.i64 (wr IntKind.i64
  ((↑(List.length (St.stack s)) : Int) - (1 : Int)) - (0 : Int)) ∧ wr IntKind.i64 (wr IntKind.i64 ((↑(List.length (St.stack s)) : Int) - (1 : Int)) - (0 : Int)) + (1 : Int) ≤
  (↑(List.length (St.stack s)) : Int) ∧ ∀ (x_1 : Int), (St.stack s)[Int.toNat (wr IntKind.i64 (wr IntKind.i64 ((↑(List.length (St.stack s)) : Int) - (1 : Int)) - (0 : Int)))]? = some
  x_1 → True ∧ ((Prod.snd (divF x x_1 (9 : Int)) != (0 : Int)) = true → ((Prod.snd (divF x x_1 (9 : Int)) != (0 : Int)) = true → St.pc s = St.pc z ∧ wr IntKind.i64 (St.fuel s - (1 :
  Int)) = St.fuel z ∧ wr IntKind.i64 ((10 : Int) + Prod.snd (divF x x_1 (9 : Int))) = St.status z ∧ St.clause s = St.clause z ∧ (St.stack s = St.stack z ∧ (false = true → false =
  true)) ∧ True) ∧ ((Prod.snd (divF x x_1 (9 : Int)) != (0 : Int)) = false → St.pc s = St.pc z ∧ wr IntKind.i64 (St.fuel s - (1 : Int)) = St.fuel z ∧ St.status s = St.status z ∧
  St.clause s = St.clause z ∧ (St.stack s = St.stack z ∧ (false = true → false = true)) ∧ True)) ∧ ((Prod.snd (divF x x_1 (9 : Int)) != (0 : Int)) = false → ((0 : Int) ≤ wr
  IntKind.i64 ((↑(List.length (St.stack s)) : Int) - (2 : Int)) ∧ wr IntKind.i64 ((↑(List.length (St.stack s)) : Int) - (2 : Int)) = wr IntKind.i64 ((↑(List.length (St.stack s)) :
  Int) - (2 : Int)) ∧ wr IntKind.i64 ((↑(List.length (St.stack s)) : Int) - (2 : Int)) ≤ (↑(List.length (St.stack s)) : Int)) ∧ (List.length (List.take (Int.toNat (wr IntKind.i64
  ((↑(List.length (St.stack s)) : Int) - (2 : Int)))) (St.stack s)) + (1 : Nat)) * (8 : Nat) ≤ (140737488355328 : Nat) ∧ wr IntKind.i64 (St.pc s + (1 : Int)) = St.pc z ∧ wr
  IntKind.i64 (St.fuel s - (1 : Int)) = St.fuel z ∧ St.status s = St.status z ∧ St.clause s = St.clause z ∧ ((0 : Nat) + (List.length (List.take (Int.toNat (wr IntKind.i64
  ((↑(List.length (St.stack s)) : Int) - (2 : Int)))) (St.stack s)) + (1 : Nat)) ≤ List.length (List.take (Int.toNat (wr IntKind.i64 ((↑(List.length (St.stack s)) : Int) - (2 :
  Int)))) (St.stack s) ++ [Prod.fst (divF x x_1 (9 : Int))]) ∧ List.take (List.length (List.take (Int.toNat (wr IntKind.i64 ((↑(List.length (St.stack s)) : Int) - (2 : Int))))
  (St.stack s)) + (1 : Nat)) (List.take (Int.toNat (wr IntKind.i64 ((↑(List.length (St.stack s)) : Int) - (2 : Int)))) (St.stack s) ++ [Prod.fst (divF x x_1 (9 : Int))]) = St.stack
  z) ∧ True)) ∧ ((Ins.op x == (↑(9 : Nat) : Int)) = false → ((Ins.op x == (↑(10 : Nat) : Int)) = true → (0 : Int) ≤ wr IntKind.i64 (wr IntKind.i64 ((↑(List.length (St.stack s)) :
  Int) - (1 : Int)) - (1 : Int)) ∧ wr IntKind.i64 (wr IntKind.i64 ((↑(List.length (St.stack s)) : Int) - (1 : Int)) - (1 : Int)) + (1 : Int) ≤ (↑(List.length (St.stack s)) : Int) ∧ ∀
  (x : Int), (St.stack s)[Int.toNat (wr IntKind.i64 (wr IntKind.i64 ((↑(List.length (St.stack s)) : Int) - (1 : Int)) - (1 : Int)))]? = some x → (0 : Int) ≤ wr IntKind.i64 (wr
  IntKind.i64 ((↑(List.length (St.stack s)) : Int) - (1 : Int)) - (0 : Int)) ∧ wr IntKind.i64 (wr IntKind.i64 ((↑(List.length (St.stack s)) : Int) - (1 : Int)) - (0 : Int)) + (1 :
  Int) ≤ (↑(List.length (St.stack s)) : Int) ∧ ∀ (x_1 : Int), (St.stack s)[Int.toNat (wr IntKind.i64 (wr IntKind.i64 ((↑(List.length (St.stack s)) : Int) - (1 : Int)) - (0 : Int)))]?
  = some x_1 → True ∧ ((Prod.snd (divF x x_1 (10 : Int)) != (0 : Int)) = true → ((Prod.snd (divF x x_1 (10 : Int)) != (0 : Int)) = true → St.pc s = St.pc z ∧ wr IntKind.i64 (St.fuel
  s - (1 : Int)) = St.fuel z ∧ wr IntKind.i64 ((10 : Int) + Prod.snd (divF x x_1 (10 : Int))) = St.status z ∧ St.clause s = St.clause z ∧ (St.stack s = St.stack z ∧ (false = true →
  false = true)) ∧ True) ∧ ((Prod.snd (divF x x_1 (10 : Int)) != (0 : Int)) = false → St.pc s = St.pc z ∧ wr IntKind.i64 (St.fuel s - (1 : Int)) = St.fuel z ∧ St.status s = St.status
  z ∧ St.clause s = St.clause z ∧ (St.stack s = St.stack z ∧ (false = true → false = true)) ∧ True)) ∧ ((Prod.snd (divF x x_1 (10 : Int)) != (0 : Int)) = false → ((0 : Int) ≤ wr
  IntKind.i64 ((↑(List.length (St.stack s)) : Int) - (2 : Int)) ∧ wr IntKind.i64 ((↑(List.length (St.stack s)) : Int) - (2 : Int)) = wr IntKind.i64 ((↑(List.length (St.stack s)) :
  Int) - (2 : Int)) ∧ wr IntKind.i64 ((↑(List.length (St.stack s)) : Int) - (2 : Int)) ≤ (↑(List.length (St.stack s)) : Int)) ∧ (List.length (List.take (Int.toNat (wr IntKind.i64
  ((↑(List.length (St.stack s)) : Int) - (2 : Int)))) (St.stack s)) + (1 : Nat)) * (8 : Nat) ≤ (140737488355328 : Nat) ∧ wr IntKind.i64 (St.pc s + (1 : Int)) = St.pc z ∧ wr
  IntKind.i64 (St.fuel s - (1 : Int)) = St.fuel z ∧ St.status s = St.status z ∧ St.clause s = St.clause z ∧ ((0 : Nat) + (List.length (List.take (Int.toNat (wr IntKind.i64
  ((↑(List.length (St.stack s)) : Int) - (2 : Int)))) (St.stack s)) + (1 : Nat)) ≤ List.length (List.take (Int.toNat (wr IntKind.i64 ((↑(List.length (St.stack s)) : Int) - (2 :
  Int)))) (St.stack s) ++ [Prod.fst (divF x x_1 (10 : Int))]) ∧ List.take (List.length (List.take (Int.toNat (wr IntKind.i64 ((↑(List.length (St.stack s)) : Int) - (2 : Int))))
  (St.stack s)) + (1 : Nat)) (List.take (Int.toNat (wr IntKind.i64 ((↑(List.length (St.stack s)) : Int) - (2 : Int)))) (St.stack s) ++ [Prod.fst (divF x x_1 (10 : Int))]) = St.stack
  z) ∧ True)) ∧ ((Ins.op x == (↑(10 : Nat) : Int)) = false → ((Ins.op x == (↑(11 : Nat) : Int)) = true → (0 : Int) ≤ wr IntKind.i64 (wr IntKind.i64 ((↑(List.length (St.stack s)) :
  Int) - (1 : Int)) - (1 : Int)) ∧ wr IntKind.i64 (wr IntKind.i64 ((↑(List.length (St.stack s)) : Int) - (1 : Int)) - (1 : Int)) + (1 : Int) ≤ (↑(List.length (St.stack s)) : Int) ∧ ∀
  (x : Int), (St.stack s)[Int.toNat (wr IntKind.i64 (wr IntKind.i64 ((↑(List.length (St.stack s)) : Int) - (1 : Int)) - (1 : Int)))]? = some x → (0 : Int) ≤ wr IntKind.i64 (wr
  IntKind.i64 ((↑(List.length (St.stack s)) : Int) - (1 : Int)) - (0 : Int)) ∧ wr IntKind.i64 (wr IntKind.i64 ((↑(List.length (St.stack s)) : Int) - (1 : Int)) - (0 : Int)) + (1 :
  Int) ≤ (↑(List.length (St.stack s)) : Int) ∧ ∀ (x_1 : Int), (St.stack s)[Int.toNat (wr IntKind.i64 (wr IntKind.i64 ((↑(List.length (St.stack s)) : Int) - (1 : Int)) - (0 : Int)))]?
  = some x_1 → (decide (x < x_1) = true → ((0 : Int) ≤ wr IntKind.i64 ((↑(List.length (St.stack s)) : Int) - (2 : Int)) ∧ wr IntKind.i64 ((↑(List.length (St.stack s)) : Int) - (2 :
  Int)) = wr IntKind.i64 ((↑(List.length (St.stack s)) : Int) - (2 : Int)) ∧ wr IntKind.i64 ((↑(List.length (St.stack s)) : Int) - (2 : Int)) ≤ (↑(List.length (St.stack s)) : Int)) ∧
  (List.length (List.take (Int.toNat (wr IntKind.i64 ((↑(List.length (St.stack s)) : Int) - (2 : Int)))) (St.stack s)) + (1 : Nat)) * (8 : Nat) ≤ (140737488355328 : Nat) ∧ wr
  IntKind.i64 (St.pc s + (1 : Int)) = St.pc z ∧ wr IntKind.i64 (St.fuel s - (1 : Int)) = St.fuel z ∧ St.status s = St.status z ∧ St.clause s = St.clause z ∧ ((0 : Nat) + (List.length
  (List.take (Int.toNat (wr IntKind.i64 ((↑(List.length (St.stack s)) : Int) - (2 : Int)))) (St.stack s)) + (1 : Nat)) ≤ List.length (List.take (Int.toNat (wr IntKind.i64
  ((↑(List.length (St.stack s)) : Int) - (2 : Int)))) (St.stack s) ++ [(1 : Int)]) ∧ List.take (List.length (List.take (Int.toNat (wr IntKind.i64 ((↑(List.length (St.stack s)) : Int)
  - (2 : Int)))) (St.stack s)) + (1 : Nat)) (List.take (Int.toNat (wr IntKind.i64 ((↑(List.length (St.stack s)) : Int) - (2 : Int)))) (St.stack s) ++ [(1 : Int)]) = St.stack z) ∧
  True) ∧ (decide (x < x_1) = false → ((0 : Int) ≤ wr IntKind.i64 ((↑(List.length (St.stack s)) : Int) - (2 : Int)) ∧ wr IntKind.i64 ((↑(List.length (St.stack s)) : Int) - (2 : Int))
  = wr IntKind.i64 ((↑(List.length (St.stack s)) : Int) - (2 : Int)) ∧ wr IntKind.i64 ((↑(List.length (St.stack s)) : Int) - (2 : Int)) ≤ (↑(List.length (St.stack s)) : Int)) ∧
  (List.length (List.take (Int.toNat (wr IntKind.i64 ((↑(List.length (St.stack s)) : Int) - (2 : Int)))) (St.stack s)) + (1 : Nat)) * (8 : Nat) ≤ (140737488355328 : Nat) ∧ wr
  IntKind.i64 (St.pc s + (1 : Int)) = St.pc z ∧ wr IntKind.i64 (St.fuel s - (1 : Int)) = St.fuel z ∧ St.status s = St.status z ∧ St.clause s = St.clause z ∧ ((0 : Nat) + (List.length
  (List.take (Int.toNat (wr IntKind.i64 ((↑(List.length (St.stack s)) : Int) - (2 : Int)))) (St.stack s)) + (1 : Nat)) ≤ List.length (List.take (Int.toNat (wr IntKind.i64
  ((↑(List.length (St.stack s)) : Int) - (2 : Int)))) (St.stack s) ++ [(0 : Int)]) ∧ List.take (List.length (List.take (Int.toNat (wr IntKind.i64 ((↑(List.length (St.stack s)) : Int)
  - (2 : Int)))) (St.stack s)) + (1 : Nat)) (List.take (Int.toNat (wr IntKind.i64 ((↑(List.length (St.stack s)) : Int) - (2 : Int)))) (St.stack s) ++ [(0 : Int)]) = St.stack z) ∧
  True)) ∧ ((Ins.op x == (↑(11 : Nat) : Int)) = false → (0 : Int) ≤ wr IntKind.i64 (wr IntKind.i64 ((↑(List.length (St.stack s)) : Int) - (1 : Int)) - (1 : Int)) ∧ wr IntKind.i64 (wr
  IntKind.i64 ((↑(List.length (St.stack s)) : Int) - (1 : Int)) - (1 : Int)) + (1 : Int) ≤ (↑(List.length (St.stack s)) : Int) ∧ ∀ (x : Int), (St.stack s)[Int.toNat (wr IntKind.i64
  (wr IntKind.i64 ((↑(List.length (St.stack s)) : Int) - (1 : Int)) - (1 : Int)))]? = some x → (0 : Int) ≤ wr IntKind.i64 (wr IntKind.i64 ((↑(List.length (St.stack s)) : Int) - (1 :
  Int)) - (0 : Int)) ∧ wr IntKind.i64 (wr IntKind.i64 ((↑(List.length (St.stack s)) : Int) - (1 : Int)) - (0 : Int)) + (1 : Int) ≤ (↑(List.length (St.stack s)) : Int) ∧ ∀ (x : Int),
  (St.stack s)[Int.toNat (wr IntKind.i64 (wr IntKind.i64 ((↑(List.length (St.stack s)) : Int) - (1 : Int)) - (0 : Int)))]? = some x → False))))))))))))))))))
  ) := by kernel_rfl
--@end
--@cond radvance | 38 | F5 | 400 | (c : List Ins) (v : Env) (s : St) (below : Int) | [.psl .ins c false, envV v, stV s, .int false .i64 below] | (z : St) | stV z
--@end
end Go.Proofs.YtcaomfbcchemnaaDoor

/- Chapter 21: a step of the machine, shown once for every heap. -/
namespace Go.Proofs.YtcaomfbcchemnaaDoor
open Go
set_option linter.unusedVariables false
set_option linter.unusedSimpArgs false
/-- a state in which a step can be done -/
structure CanAdv (c : List Ins) (s : St) (below : Int) : Prop where
  short : c.length ≤ 4096
  pc0 : 0 ≤ s.pc
  pc1 : s.pc < c.length
  formed : ∀ x, c[s.pc.toNat]? = some x → formedF x = true
  fuel0 : 0 ≤ s.fuel
  fuel1 : s.fuel ≤ 1000000
  below0 : 0 ≤ below
  below1 : below ≤ 64
  stack : s.stack.length ≤ 64
def advR (s1 : St) (r : St × Int) : St := if r.2 = 0 then r.1 else { s1 with status := 10 + r.2 }
theorem advR_ok (s1 a : St) : advR s1 (a, 0) = a := by simp [advR]
theorem advR_err (s1 a : St) {e : Int} (h : ¬ e = 0) : advR s1 (a, e) = { s1 with status := 10 + e } := by simp [advR, h]
theorem advF_at {c : List Ins} {v : Env} {s : St} {below : Int} {x : Ins} (hx : c[s.pc.toNat]? = some x) (h : ¬ s.fuel = 0) : advF c v s below = advR { s with fuel := s.fuel - 1 } (execF x v { s with fuel := s.fuel - 1 } below) := by
  unfold advF
  rw [if_neg h, hx]
  rfl
theorem formed_op {x : Ins} (hf : formedF x = true) : 1 ≤ x.op ∧ x.op ≤ 16 := by
  unfold formedF at hf
  repeat' split at hf
  all_goals simp only [decide_eq_true_eq] at hf
  all_goals omega
theorem get_top {l : List Int} {i : Nat} {y : Int} (h : l[i]? = some y) {j : Nat} (hj : i = l.length - 1 - j) : topF l j = y := by
  unfold topF
  rw [← hj, List.getD_eq_getElem?_getD, h]; rfl
theorem advance_pure (c : List Ins) (v : Env) (s : St) (below : Int) (h : CanAdv c s below) : PureC E 34 [.psl .ins c false, envV v, stV s, .int false .i64 below] (stV (advF c v s below)) := by
  obtain ⟨hc, h0, h1, hf, f0, f1, b0, b1, hs⟩ := h
  refine pure_of_call E_ok (callOk_of E_ok F5_ok 400) ?_
  rw [cond_advance]
  obtain ⟨x, hx⟩ : ∃ x, c[s.pc.toNat]? = some x := ⟨c[s.pc.toNat]'(by omega), by simp⟩
  have hfx := hf x hx
  have hop := formed_op hfx
  have hn9 : ∀ k : Nat, ((k : Nat) : Int) = k := fun _ => rfl
  have ef : wr .i64 (s.fuel - 1) = s.fuel - 1 := wr64 (by omega) (by omega)
  have ep : wr .i64 (s.pc + 1) = s.pc + 1 := wr64 (by omega) (by omega)
  have eb : wr .i64 (below + (s.stack.length : Int)) = below + s.stack.length := wr64 (by omega) (by omega)
  have e0 : wr .i64 ((s.stack.length : Int) - 0) = s.stack.length := by rw [wr64 (by omega) (by omega)]; omega
  have e1 : wr .i64 ((s.stack.length : Int) - 1) = s.stack.length - 1 := wr64 (by omega) (by omega)
  have e10 : wr .i64 ((s.stack.length : Int) - 1 - 0) = s.stack.length - 1 := by rw [wr64 (by omega) (by omega)]; omega
  have e11 : wr .i64 ((s.stack.length : Int) - 1 - 1) = s.stack.length - 2 := by rw [wr64 (by omega) (by omega)]; omega
  have e2 : wr .i64 ((s.stack.length : Int) - 2) = s.stack.length - 2 := wr64 (by omega) (by omega)
  simp only [hx, Option.some.injEq, forall_eq', ef, ep, eb, e0, e1, e10, e11, e2, Int.toNat_natCast, List.take_length, bif_true, bif_false, bif_nt, bif_tf, bif_ft, beq_iff_eq, bne_iff_ne, beq_eq_false_iff_ne, bne_eq_false_iff_eq, decide_eq_true_eq, decide_eq_false_iff_not, Bool.or_eq_true, Bool.or_eq_false_iff, Bool.not_eq_true', Bool.not_eq_false', Bool.and_eq_true, Bool.and_true, Bool.true_and, Bool.and_eq_false_iff, beq_self_eq_true, mm2_max, mm2_min, ne_eq, and_true, true_and, Bool.true_eq_false, Bool.false_eq_true, false_or, or_false, true_implies, Int.ofNat_eq_natCast, not_true_eq_false, not_false_eq_true, Decidable.not_not, ge_iff_le, gt_iff_lt]
  refine ⟨fun h => by unfold advF; rw [if_pos h]; simp, fun h => ⟨by omega, by omega, fun hn => ?_, fun hn => ?_⟩⟩
  all_goals rw [advF_at hx h]
  · have hE : execF x v { s with fuel := s.fuel - 1 } below = ({ s with fuel := s.fuel - 1 }, 200) := by unfold execF; rw [if_pos hn]
    rw [hE]; simp [advR]
  clear hx hf ef ep eb e0 e1 e10 e11 e2
  obtain ⟨s1, hs1⟩ : ∃ s1 : St, s1 = { s with fuel := s.fuel - 1 } := ⟨_, rfl⟩
  have q1 : s1.pc = s.pc := by rw [hs1]
  have q2 : s1.fuel = s.fuel - 1 := by rw [hs1]
  have q3 : s1.status = s.status := by rw [hs1]
  have q4 : s1.clause = s.clause := by rw [hs1]
  have q5 : s1.stack = s.stack := by rw [hs1]
  rw [← hs1]
  have hn : ¬ ((s1.stack.length : Int) < needsF x.op) := by rw [q5]; exact hn
  clear hs1
  obtain ⟨op, n, m⟩ := x
  dsimp only at *
  have e1n : Int.toNat ((s.stack.length : Int) - 1) = s.stack.length - 1 := by omega
  have e2n : Int.toNat ((s.stack.length : Int) - 2) = s.stack.length - 2 := by omega
  refine ⟨fun ho => ?_, fun o1 => ⟨fun ho => ?_, fun o2 => ⟨fun ho => ?_, fun o12 => ⟨fun ho => ?_, fun o13 => ⟨fun ho => ?_, fun o14 => ⟨fun ho => ?_, fun o15 => ⟨fun ho => ?_, fun o16 => ?_⟩⟩⟩⟩⟩⟩⟩
  · subst ho
    refine ⟨fun h64 => ?_, fun h64 => ?_⟩
    · have hE : execF ⟨1, n, m⟩ v s1 below = (s1, 200) := by unfold execF; rw [if_neg hn]; simp [q5, h64]
      rw [hE, advR_err _ _ (by omega)]; simp [q1, q2, q3, q4, q5]
    · have hE : execF ⟨1, n, m⟩ v s1 below = (s1.pops 0 [n], 0) := by unfold execF; rw [if_neg hn]; simp [q5, h64]
      rw [hE, advR_ok]
      refine ⟨⟨by omega, by omega⟩, by omega, by simp [St.pops, q1], by simp [St.pops, q2], by simp [St.pops, q3], by simp [St.pops, q4], ?_⟩
      simp [St.pops, q5]
      all_goals first | omega | exact List.take_of_length_le (by simp only [List.length_append, List.length_take, List.length_cons, List.length_nil]; omega)
  · subst ho
    refine ⟨fun h64 => ?_, fun h64 => ?_⟩
    · have hE : execF ⟨2, n, m⟩ v s1 below = (s1, 200) := by unfold execF; rw [if_neg hn]; simp [q5, h64]
      rw [hE, advR_err _ _ (by omega)]; simp [q1, q2, q3, q4, q5]
    have hn15 : 0 ≤ n ∧ n ≤ 15 := by simp [formedF] at hfx; omega
    have hbit : bitsOp BinOp.and IntKind.i64 v.has (wr IntKind.i64 (1 * 2 ^ min n.toNat IntKind.i64.bits)) = 0 ↔ (v.has / 2 ^ n.toNat) % 2 = 0 := by
      have e : ∀ k : Nat, k ≤ 15 → wr IntKind.i64 (1 * 2 ^ min k IntKind.i64.bits) = ((2 ^ k : Nat) : Int) := by decide
      rw [e _ (by omega)]
      have e2 := and_bit v.has n.toNat (by omega)
      have e3 : (bitsOp BinOp.and IntKind.i64 v.has ((2 ^ n.toNat : Nat) : Int) == 0) = decide ((v.has / ((2 ^ n.toNat : Nat) : Int)) % 2 = 0) := e2
      rw [← beq_iff_eq (a := bitsOp BinOp.and IntKind.i64 v.has ((2 ^ n.toNat : Nat) : Int)), e3, decide_eq_true_eq]
      simp
    refine ⟨by omega, fun hb => ?_, fun hb => ⟨by omega, by omega, ?_⟩⟩
    · have hE : execF ⟨2, n, m⟩ v s1 below = (s1, 181) := by unfold execF; rw [if_neg hn]; simp [q5, h64, hbit.1 hb]
      rw [hE, advR_err _ _ (by omega)]; simp [q1, q2, q3, q4, q5]
    have hb' : ¬ (v.has / 2 ^ n.toNat) % 2 = 0 := fun h => hb (hbit.2 h)
    have key : ∀ w : Int, v.v.getD n.toNat 0 = w → ∃ Q : Bool → Prop, ((w < -9007199254740992 → Q true) ∧ (¬w < -9007199254740992 → (9007199254740992 < w → Q true) ∧ (¬9007199254740992 < w → Q false))) ∧
        (Q true → s.pc = (advR s1 (execF ⟨2, n, m⟩ v s1 below)).pc ∧ s.fuel - 1 = (advR s1 (execF ⟨2, n, m⟩ v s1 below)).fuel ∧ 13 = (advR s1 (execF ⟨2, n, m⟩ v s1 below)).status ∧ s.clause = (advR s1 (execF ⟨2, n, m⟩ v s1 below)).clause ∧ s.stack = (advR s1 (execF ⟨2, n, m⟩ v s1 below)).stack ∧ (False → False)) ∧
        (Q false → (0 ≤ (s.stack.length : Int) ∧ (s.stack.length : Int) ≤ s.stack.length) ∧ (s.stack.length + 1) * 8 ≤ 140737488355328 ∧ s.pc + 1 = (advR s1 (execF ⟨2, n, m⟩ v s1 below)).pc ∧ s.fuel - 1 = (advR s1 (execF ⟨2, n, m⟩ v s1 below)).fuel ∧ s.status = (advR s1 (execF ⟨2, n, m⟩ v s1 below)).status ∧ s.clause = (advR s1 (execF ⟨2, n, m⟩ v s1 below)).clause ∧
          0 + (s.stack.length + 1) ≤ (s.stack ++ [w]).length ∧ List.take (s.stack.length + 1) (s.stack ++ [w]) = (advR s1 (execF ⟨2, n, m⟩ v s1 below)).stack) := by
      intro w hw
      refine ⟨fun b => (b = true ↔ (w < -9007199254740992 ∨ 9007199254740992 < w)), ⟨fun h => by simp [h], fun h => ⟨fun h' => by simp [h'], fun h' => by simp; omega⟩⟩, fun hQ => ?_, fun hQ => ?_⟩
      · have hQ := hQ.1 rfl
        have hE : execF ⟨2, n, m⟩ v s1 below = (s1, 3) := by unfold execF; rw [if_neg hn]; dsimp only; rw [if_neg (by omega), if_pos rfl, if_neg (by rw [q5]; exact h64), if_neg hb', hw, if_pos hQ]
        rw [hE, advR_err _ _ (by omega)]; simp [q1, q2, q3, q4, q5]
      · have hQ : ¬ (w < -9007199254740992 ∨ 9007199254740992 < w) := fun h => absurd (hQ.2 h) (by simp)
        have hE : execF ⟨2, n, m⟩ v s1 below = (s1.pops 0 [w], 0) := by unfold execF; rw [if_neg hn]; dsimp only; rw [if_neg (by omega), if_pos rfl, if_neg (by rw [q5]; exact h64), if_neg hb', hw, if_neg hQ]
        rw [hE, advR_ok]
        refine ⟨⟨by omega, by omega⟩, by omega, by simp [St.pops, q1], by simp [St.pops, q2], by simp [St.pops, q3], by simp [St.pops, q4], by simp, ?_⟩
        simp [St.pops, q5]
        all_goals first | omega | exact List.take_of_length_le (by simp only [List.length_append, List.length_take, List.length_cons, List.length_nil]; omega)
    exact ⟨fun hk => key _ (by rw [show n = 0 by omega]; rfl), fun _ => ⟨fun hk => key _ (by rw [show n = 1 by omega]; rfl), fun _ => ⟨fun hk => key _ (by rw [show n = 2 by omega]; rfl), fun _ => ⟨fun hk => key _ (by rw [show n = 3 by omega]; rfl), fun _ => ⟨fun hk => key _ (by rw [show n = 4 by omega]; rfl), fun _ => ⟨fun hk => key _ (by rw [show n = 5 by omega]; rfl), fun _ => ⟨fun hk => key _ (by rw [show n = 6 by omega]; rfl), fun _ => ⟨fun hk => key _ (by rw [show n = 7 by omega]; rfl), fun _ => ⟨fun hk => key _ (by rw [show n = 8 by omega]; rfl), fun _ => ⟨fun hk => key _ (by rw [show n = 9 by omega]; rfl), fun _ => ⟨fun hk => key _ (by rw [show n = 10 by omega]; rfl), fun _ => ⟨fun hk => key _ (by rw [show n = 11 by omega]; rfl), fun _ => ⟨fun hk => key _ (by rw [show n = 12 by omega]; rfl), fun _ => ⟨fun hk => key _ (by rw [show n = 13 by omega]; rfl), fun _ => ⟨fun hk => key _ (by rw [show n = 14 by omega]; rfl), fun _ => ⟨fun hk => key _ (by rw [show n = 15 by omega]; rfl), fun _ => trivial⟩⟩⟩⟩⟩⟩⟩⟩⟩⟩⟩⟩⟩⟩⟩⟩
  · subst ho
    have hl : 1 ≤ (s.stack.length : Int) := by rw [q5] at hn; simp [needsF] at hn; omega
    refine ⟨by omega, by omega, fun a ha => ?_⟩
    have t0 : topF s1.stack 0 = a := get_top (by rw [q5]; exact ha) (by rw [q5]; omega)
    have hE : execF ⟨12, n, m⟩ v s1 below = (s1.pops 1 [if n ≤ a ∧ a ≤ m then 1 else 0], 0) := by unfold execF; rw [if_neg hn]; simp [t0]
    rw [hE, advR_ok]
    refine ⟨fun hna => ⟨by omega, by omega, fun b hb => ?_⟩, fun hna => ?_⟩
    · rw [ha] at hb; cases hb
      refine ⟨fun hm => ?_, fun hm => ?_⟩
      all_goals
        refine ⟨⟨by omega, by omega⟩, by simp only [List.length_take]; omega, by simp [St.pops, q1], by simp [St.pops, q2], by simp [St.pops, q3], by simp [St.pops, q4], ?_⟩
        rw [e1n]
        simp [St.pops, q5, hna, hm]
        all_goals first | omega | exact List.take_of_length_le (by simp only [List.length_append, List.length_take, List.length_cons, List.length_nil]; omega)
    · refine ⟨⟨by omega, by omega⟩, by simp only [List.length_take]; omega, by simp [St.pops, q1], by simp [St.pops, q2], by simp [St.pops, q3], by simp [St.pops, q4], ?_⟩
      rw [e1n]
      simp [St.pops, q5, hna]
      all_goals first | omega | exact List.take_of_length_le (by simp only [List.length_append, List.length_take, List.length_cons, List.length_nil]; omega)
  · subst ho
    have hl : 1 ≤ (s.stack.length : Int) := by rw [q5] at hn; simp [needsF] at hn; omega
    refine ⟨by omega, by omega, fun a ha => ⟨⟨by omega, by omega⟩, ?_⟩⟩
    have t0 : topF s1.stack 0 = a := get_top (by rw [q5]; exact ha) (by rw [q5]; omega)
    have hE : execF ⟨13, n, m⟩ v s1 below = ({ s1.pops 1 [] with pc := if a = 0 then n else s1.pc + 1 }, 0) := by unfold execF; rw [if_neg hn]; simp [t0]
    rw [hE, advR_ok, e1n]
    refine ⟨fun hz => ?_, fun hz => ?_⟩
    all_goals simp [St.pops, q1, q2, q3, q4, q5, hz]
  · subst ho
    have hE : execF ⟨14, n, m⟩ v s1 below = ({ s1 with pc := n }, 0) := by unfold execF; rw [if_neg hn]; simp
    rw [hE, advR_ok]
    simp [q1, q2, q3, q4, q5]
  · subst ho
    have hE : execF ⟨15, n, m⟩ v s1 below = ({ s1 with status := 1, clause := n }, 0) := by unfold execF; rw [if_neg hn]; simp
    rw [hE, advR_ok]
    simp [q1, q2, q3, q4, q5]
  · subst ho
    have hE : execF ⟨16, n, m⟩ v s1 below = (s1, 180) := by unfold execF; rw [if_neg hn]; simp
    rw [hE, advR_err _ _ (by omega)]
    simp [q1, q2, q3, q4, q5]
  have hl : 2 ≤ (s.stack.length : Int) := by
    rw [q5] at hn
    have e : needsF op = 2 := by unfold needsF; rw [if_neg (by omega), if_pos (by omega)]
    rw [e] at hn; omega
  refine ⟨fun ho => ?_, fun o3 => ⟨fun ho => ?_, fun o4 => ⟨fun ho => ?_, fun o5 => ⟨fun ho => ?_, fun o6 => ⟨fun ho => ?_, fun o7 => ⟨fun ho => ?_, fun o8 => ⟨fun ho => ?_, fun o9 => ⟨fun ho => ?_, fun o10 => ⟨fun ho => ?_, fun o11 => by omega⟩⟩⟩⟩⟩⟩⟩⟩⟩
  · obtain rfl : op = 3 := by omega
    clear ho
    refine ⟨by omega, by omega, fun a ha => ⟨by omega, by omega, fun b hb => ?_⟩⟩
    have t1 : topF s1.stack 1 = a := get_top (by rw [q5]; exact ha) (by rw [q5]; omega)
    have t0 : topF s1.stack 0 = b := get_top (by rw [q5]; exact hb) (by rw [q5]; omega)
    have hE : execF ⟨3, n, m⟩ v s1 below = if (addF a b).2 ≠ 0 then (s1, (addF a b).2) else (s1.pops 2 [(addF a b).1], 0) := by
      unfold execF; rw [if_neg hn]; simp [t0, t1, binF]
    have hw : wr .i64 (10 + (addF a b).2) = 10 + (addF a b).2 := by
      have := addF_err a b
      rw [wr64 (by omega) (by omega)]
    refine ⟨fun he => ⟨fun _ => ?_, fun h' => absurd h' he⟩, fun he => ?_⟩
    · rw [hE, if_pos he, advR_err _ _ he, hw]; simp [q1, q2, q3, q4, q5]
    · rw [hE, if_neg (by simp [he]), advR_ok]
      refine ⟨⟨by omega, by omega⟩, by simp only [List.length_take]; omega, by simp [St.pops, q1], by simp [St.pops, q2], by simp [St.pops, q3], by simp [St.pops, q4], ?_⟩
      rw [e2n]
      simp [St.pops, q5]
      all_goals first | omega | exact List.take_of_length_le (by simp only [List.length_append, List.length_take, List.length_cons, List.length_nil]; omega)
  · obtain rfl : op = 4 := by omega
    clear ho
    refine ⟨by omega, by omega, fun a ha => ⟨by omega, by omega, fun b hb => ?_⟩⟩
    have t1 : topF s1.stack 1 = a := get_top (by rw [q5]; exact ha) (by rw [q5]; omega)
    have t0 : topF s1.stack 0 = b := get_top (by rw [q5]; exact hb) (by rw [q5]; omega)
    have hE : execF ⟨4, n, m⟩ v s1 below = if (subF a b).2 ≠ 0 then (s1, (subF a b).2) else (s1.pops 2 [(subF a b).1], 0) := by
      unfold execF; rw [if_neg hn]; simp [t0, t1, binF]
    have hw : wr .i64 (10 + (subF a b).2) = 10 + (subF a b).2 := by
      have := subF_err a b
      rw [wr64 (by omega) (by omega)]
    refine ⟨fun he => ⟨fun _ => ?_, fun h' => absurd h' he⟩, fun he => ?_⟩
    · rw [hE, if_pos he, advR_err _ _ he, hw]; simp [q1, q2, q3, q4, q5]
    · rw [hE, if_neg (by simp [he]), advR_ok]
      refine ⟨⟨by omega, by omega⟩, by simp only [List.length_take]; omega, by simp [St.pops, q1], by simp [St.pops, q2], by simp [St.pops, q3], by simp [St.pops, q4], ?_⟩
      rw [e2n]
      simp [St.pops, q5]
      all_goals first | omega | exact List.take_of_length_le (by simp only [List.length_append, List.length_take, List.length_cons, List.length_nil]; omega)
  · obtain rfl : op = 5 := by omega
    clear ho
    refine ⟨by omega, by omega, fun a ha => ⟨by omega, by omega, fun b hb => ?_⟩⟩
    have t1 : topF s1.stack 1 = a := get_top (by rw [q5]; exact ha) (by rw [q5]; omega)
    have t0 : topF s1.stack 0 = b := get_top (by rw [q5]; exact hb) (by rw [q5]; omega)
    have hE : execF ⟨5, n, m⟩ v s1 below = if (mulF a b).2 ≠ 0 then (s1, (mulF a b).2) else (s1.pops 2 [(mulF a b).1], 0) := by
      unfold execF; rw [if_neg hn]; simp [t0, t1, binF]
    have hw : wr .i64 (10 + (mulF a b).2) = 10 + (mulF a b).2 := by
      have := mulF_err a b
      rw [wr64 (by omega) (by omega)]
    refine ⟨fun he => ⟨fun _ => ?_, fun h' => absurd h' he⟩, fun he => ?_⟩
    · rw [hE, if_pos he, advR_err _ _ he, hw]; simp [q1, q2, q3, q4, q5]
    · rw [hE, if_neg (by simp [he]), advR_ok]
      refine ⟨⟨by omega, by omega⟩, by simp only [List.length_take]; omega, by simp [St.pops, q1], by simp [St.pops, q2], by simp [St.pops, q3], by simp [St.pops, q4], ?_⟩
      rw [e2n]
      simp [St.pops, q5]
      all_goals first | omega | exact List.take_of_length_le (by simp only [List.length_append, List.length_take, List.length_cons, List.length_nil]; omega)
  · obtain rfl : op = 6 := by omega
    clear ho
    refine ⟨by omega, by omega, fun a ha => ⟨by omega, by omega, fun b hb => ?_⟩⟩
    have t1 : topF s1.stack 1 = a := get_top (by rw [q5]; exact ha) (by rw [q5]; omega)
    have t0 : topF s1.stack 0 = b := get_top (by rw [q5]; exact hb) (by rw [q5]; omega)
    have hE : execF ⟨6, n, m⟩ v s1 below = (s1.pops 2 [min a b], 0) := by
      unfold execF; rw [if_neg hn]; simp [t0, t1, binF]
    rw [hE, advR_ok]
    refine ⟨⟨by omega, by omega⟩, by simp only [List.length_take]; omega, by simp [St.pops, q1], by simp [St.pops, q2], by simp [St.pops, q3], by simp [St.pops, q4], ?_⟩
    rw [e2n]
    simp [St.pops, q5]
    all_goals first | omega | exact List.take_of_length_le (by simp only [List.length_append, List.length_take, List.length_cons, List.length_nil]; omega)
  · obtain rfl : op = 7 := by omega
    clear ho
    refine ⟨by omega, by omega, fun a ha => ⟨by omega, by omega, fun b hb => ?_⟩⟩
    have t1 : topF s1.stack 1 = a := get_top (by rw [q5]; exact ha) (by rw [q5]; omega)
    have t0 : topF s1.stack 0 = b := get_top (by rw [q5]; exact hb) (by rw [q5]; omega)
    have hE : execF ⟨7, n, m⟩ v s1 below = (s1.pops 2 [max a b], 0) := by
      unfold execF; rw [if_neg hn]; simp [t0, t1, binF]
    rw [hE, advR_ok]
    refine ⟨⟨by omega, by omega⟩, by simp only [List.length_take]; omega, by simp [St.pops, q1], by simp [St.pops, q2], by simp [St.pops, q3], by simp [St.pops, q4], ?_⟩
    rw [e2n]
    simp [St.pops, q5]
    all_goals first | omega | exact List.take_of_length_le (by simp only [List.length_append, List.length_take, List.length_cons, List.length_nil]; omega)
  · obtain rfl : op = 8 := by omega
    clear ho
    refine ⟨by omega, by omega, fun a ha => ⟨by omega, by omega, fun b hb => ?_⟩⟩
    have t1 : topF s1.stack 1 = a := get_top (by rw [q5]; exact ha) (by rw [q5]; omega)
    have t0 : topF s1.stack 0 = b := get_top (by rw [q5]; exact hb) (by rw [q5]; omega)
    have hE : execF ⟨8, n, m⟩ v s1 below = if (divF a b 8).2 ≠ 0 then (s1, (divF a b 8).2) else (s1.pops 2 [(divF a b 8).1], 0) := by
      unfold execF; rw [if_neg hn]; simp [t0, t1, binF]
    have hw : wr .i64 (10 + (divF a b 8).2) = 10 + (divF a b 8).2 := by
      have := divF_err a b 8
      rw [wr64 (by omega) (by omega)]
    refine ⟨fun he => ⟨fun _ => ?_, fun h' => absurd h' he⟩, fun he => ?_⟩
    · rw [hE, if_pos he, advR_err _ _ he, hw]; simp [q1, q2, q3, q4, q5]
    · rw [hE, if_neg (by simp [he]), advR_ok]
      refine ⟨⟨by omega, by omega⟩, by simp only [List.length_take]; omega, by simp [St.pops, q1], by simp [St.pops, q2], by simp [St.pops, q3], by simp [St.pops, q4], ?_⟩
      rw [e2n]
      simp [St.pops, q5]
      all_goals first | omega | exact List.take_of_length_le (by simp only [List.length_append, List.length_take, List.length_cons, List.length_nil]; omega)
  · obtain rfl : op = 9 := by omega
    clear ho
    refine ⟨by omega, by omega, fun a ha => ⟨by omega, by omega, fun b hb => ?_⟩⟩
    have t1 : topF s1.stack 1 = a := get_top (by rw [q5]; exact ha) (by rw [q5]; omega)
    have t0 : topF s1.stack 0 = b := get_top (by rw [q5]; exact hb) (by rw [q5]; omega)
    have hE : execF ⟨9, n, m⟩ v s1 below = if (divF a b 9).2 ≠ 0 then (s1, (divF a b 9).2) else (s1.pops 2 [(divF a b 9).1], 0) := by
      unfold execF; rw [if_neg hn]; simp [t0, t1, binF]
    have hw : wr .i64 (10 + (divF a b 9).2) = 10 + (divF a b 9).2 := by
      have := divF_err a b 9
      rw [wr64 (by omega) (by omega)]
    refine ⟨fun he => ⟨fun _ => ?_, fun h' => absurd h' he⟩, fun he => ?_⟩
    · rw [hE, if_pos he, advR_err _ _ he, hw]; simp [q1, q2, q3, q4, q5]
    · rw [hE, if_neg (by simp [he]), advR_ok]
      refine ⟨⟨by omega, by omega⟩, by simp only [List.length_take]; omega, by simp [St.pops, q1], by simp [St.pops, q2], by simp [St.pops, q3], by simp [St.pops, q4], ?_⟩
      rw [e2n]
      simp [St.pops, q5]
      all_goals first | omega | exact List.take_of_length_le (by simp only [List.length_append, List.length_take, List.length_cons, List.length_nil]; omega)
  · obtain rfl : op = 10 := by omega
    clear ho
    refine ⟨by omega, by omega, fun a ha => ⟨by omega, by omega, fun b hb => ?_⟩⟩
    have t1 : topF s1.stack 1 = a := get_top (by rw [q5]; exact ha) (by rw [q5]; omega)
    have t0 : topF s1.stack 0 = b := get_top (by rw [q5]; exact hb) (by rw [q5]; omega)
    have hE : execF ⟨10, n, m⟩ v s1 below = if (divF a b 10).2 ≠ 0 then (s1, (divF a b 10).2) else (s1.pops 2 [(divF a b 10).1], 0) := by
      unfold execF; rw [if_neg hn]; simp [t0, t1, binF]
    have hw : wr .i64 (10 + (divF a b 10).2) = 10 + (divF a b 10).2 := by
      have := divF_err a b 10
      rw [wr64 (by omega) (by omega)]
    refine ⟨fun he => ⟨fun _ => ?_, fun h' => absurd h' he⟩, fun he => ?_⟩
    · rw [hE, if_pos he, advR_err _ _ he, hw]; simp [q1, q2, q3, q4, q5]
    · rw [hE, if_neg (by simp [he]), advR_ok]
      refine ⟨⟨by omega, by omega⟩, by simp only [List.length_take]; omega, by simp [St.pops, q1], by simp [St.pops, q2], by simp [St.pops, q3], by simp [St.pops, q4], ?_⟩
      rw [e2n]
      simp [St.pops, q5]
      all_goals first | omega | exact List.take_of_length_le (by simp only [List.length_append, List.length_take, List.length_cons, List.length_nil]; omega)
  · obtain rfl : op = 11 := by omega
    clear ho
    refine ⟨by omega, by omega, fun a ha => ⟨by omega, by omega, fun b hb => ⟨fun hab => ?_, fun hab => ?_⟩⟩⟩
    all_goals
      have t1 : topF s1.stack 1 = a := get_top (by rw [q5]; exact ha) (by rw [q5]; omega)
      have t0 : topF s1.stack 0 = b := get_top (by rw [q5]; exact hb) (by rw [q5]; omega)
      have hE : execF ⟨11, n, m⟩ v s1 below = (s1.pops 2 [if a < b then 1 else 0], 0) := by
        unfold execF; rw [if_neg hn]; simp [t0, t1, binF]
      rw [hE, advR_ok]
      refine ⟨⟨by omega, by omega⟩, by simp only [List.length_take]; omega, by simp [St.pops, q1], by simp [St.pops, q2], by simp [St.pops, q3], by simp [St.pops, q4], ?_⟩
      rw [e2n]
      simp [St.pops, q5, hab]
      all_goals first | omega | exact List.take_of_length_le (by simp only [List.length_append, List.length_take, List.length_cons, List.length_nil]; omega)
end Go.Proofs.YtcaomfbcchemnaaDoor

/- Chapter 21: runs of the machine. -/
namespace Go.Proofs.YtcaomfbcchemnaaDoor
open Go
set_option linter.unusedVariables false
set_option linter.unusedSimpArgs false
noncomputable def Sadv : Sum thy := sumP (dL4 dCode dEnv dSt dI) (fun x => CanAdv x.1 x.2.2.1 x.2.2.2.1) fun x => stV (advF x.1 x.2.1 x.2.2.1 x.2.2.2.1)
/-- a machine's state, and how many rounds are left -/
structure SX where
  s : St
  r : Nat
/-- the loop of Run -/
def A11 : Fr thy → Hp thy → Nat → Ann thy := fun T h i => { X := SX, fr := fun x => [(0, T 0), (4, T 4), (6, T 6), (10, T 10)], bl := fun x => [(bOf (T 10), .raw (stV x.s).cells 0 none)] ++ blkP h (T 4) ++ blkP h (T 6), src := fun _ => [], md := [bOf (T 10)], ih := i, M := i + 30, meas := fun x => x.r }
/-- the loop of SameStack -/
def A26 : Fr thy → Hp thy → Nat → Ann thy := fun T h i => { X := LX, fr := fun x => [(0, T 0), (1, T 1), (5, .int false .i64 x.k)], bl := fun x => [], src := fun _ => [], md := [], ih := i, M := i + 30, meas := fun x => x.r }
noncomputable def F6 : Fns thy := addL (addL (addS F5 34 Sadv) 11 7 A11 E) 26 4 A26 E
theorem F6_ok : FnsOk E F6 := addL_ok E_ok (addL_ok E_ok (addS_ok F5_ok (sumP_ok E_ok (good_of (f := 34) rfl) fun x h => advance_pure x.1 x.2.1 x.2.2.1 x.2.2.2.1 h)) _ _ _) _ _ _
--@cond run | 11 | F6 | 400 | (c : List Ins) (v : Env) (f : Int) | [.psl .ins c false, envV v, .int false .i64 f] | (z : St) (e : Int) | .tup [stV z, .int false .i64 e]
--@end
--@cond step | 15 | F6 | 400 | (c : List Ins) (v : Env) (s : St) | [.psl .ins c false, envV v, stV s] | (z : St) (e : Int) | .tup [stV z, .int false .i64 e]
theorem cond_step (c : List Ins) (v : Env) (s : St) (z : St) (e : Int) : callF E F6 (vc E F6 400) 15 [.psl .ins c false, envV v, stV s] hp0 0 (fun r => ret E (patch hp0 0 r) r.v (.tup [stV z, .int false .i64 e])) = (
  ((St.status s != (0 : Int)) = true → ((0 : Int) = St.pc z ∧ (0 : Int) = St.fuel z ∧ (0 : Int) = St.status z ∧ (0 : Int) = St.clause z ∧ St.stack z = [] ∧ True) ∧ (211 : Int) = e ∧
  True) ∧ ((St.status s != (0 : Int)) = false → True ∧ ((Prod.snd (verF c) != (0 : Int)) = true → ((Prod.snd (verF c) != (0 : Int)) = true → ((0 : Int) = St.pc z ∧ (0 : Int) =
  St.fuel z ∧ (0 : Int) = St.status z ∧ (0 : Int) = St.clause z ∧ St.stack z = [] ∧ True) ∧ Prod.snd (verF c) = e ∧ True) ∧ ((Prod.snd (verF c) != (0 : Int)) = false → CanAdv c s (0
  : Int) ∧ (St.pc (advF c v s (0 : Int)) = St.pc z ∧ St.fuel (advF c v s (0 : Int)) = St.fuel z ∧ St.status (advF c v s (0 : Int)) = St.status z ∧ St.clause (advF c v s (0 : Int)) =
  St.clause z ∧ (St.stack (advF c v s (0 : Int)) = St.stack z ∧ (false = true → false = true)) ∧ True) ∧ (0 : Int) = e ∧ True)) ∧ ((Prod.snd (verF c) != (0 : Int)) = false → ∃ (Q :
  Bool → Prop), ((decide (St.pc s < (0 : Int)) = true → Q true) ∧ (decide (St.pc s < (0 : Int)) = false → (decide (St.pc s ≥ (↑(List.length c) : Int)) = true → Q true) ∧ (decide
  (St.pc s ≥ (↑(List.length c) : Int)) = false → (decide (St.fuel s < (0 : Int)) = true → Q true) ∧ (decide (St.fuel s < (0 : Int)) = false → (decide (St.fuel s > (32768 : Int)) =
  true → Q true) ∧ (decide (St.fuel s > (32768 : Int)) = false → ((St.clause s != (0 : Int)) = true → Q true) ∧ ((St.clause s != (0 : Int)) = false → (decide ((↑(List.length
  (St.stack s)) : Int) > (64 : Int)) = true → Q true) ∧ (decide ((↑(List.length (St.stack s)) : Int) > (64 : Int)) = false → Q false))))))) ∧ (Q true → ((0 : Int) = St.pc z ∧ (0 :
  Int) = St.fuel z ∧ (0 : Int) = St.status z ∧ (0 : Int) = St.clause z ∧ St.stack z = [] ∧ True) ∧ (1 : Int) = e ∧ True) ∧ (Q false → CanAdv c s (0 : Int) ∧ (St.pc (advF c v s (0 :
  Int)) = St.pc z ∧ St.fuel (advF c v s (0 : Int)) = St.fuel z ∧ St.status (advF c v s (0 : Int)) = St.status z ∧ St.clause (advF c v s (0 : Int)) = St.clause z ∧ (St.stack (advF c v
  s (0 : Int)) = St.stack z ∧ (false = true → false = true)) ∧ True) ∧ (0 : Int) = e ∧ True)))
  ) := by kernel_rfl
--@end
--@cond start | 13 | F6 | 400 | (f : Int) | [.int false .i64 f] | (z : St) (e : Int) | .tup [stV z, .int false .i64 e]
theorem cond_start (f : Int) (z : St) (e : Int) : callF E F6 (vc E F6 400) 13 [.int false .i64 f] hp0 0 (fun r => ret E (patch hp0 0 r) r.v (.tup [stV z, .int false .i64 e])) = (
  ∃ (Q : Bool → Prop), ((decide (f < (0 : Int)) = true → Q true) ∧ (decide (f < (0 : Int)) = false → (decide (f > (32768 : Int)) = true → Q true) ∧ (decide (f > (32768 : Int)) =
  false → Q false))) ∧ (Q true → ((0 : Int) = St.pc z ∧ (0 : Int) = St.fuel z ∧ (0 : Int) = St.status z ∧ (0 : Int) = St.clause z ∧ St.stack z = [] ∧ True) ∧ (1 : Int) = e ∧ True) ∧
  (Q false → ((0 : Int) = St.pc z ∧ f = St.fuel z ∧ (0 : Int) = St.status z ∧ (0 : Int) = St.clause z ∧ St.stack z = [] ∧ True) ∧ (0 : Int) = e ∧ True)
  ) := by kernel_rfl
--@end
--@cond rstart | 14 | F6 | 400 | (f : Int) | [.int false .i64 f] | (z : St) (e : Int) | .tup [stV z, .int false .i64 e]
--@end
--@cond result | 18 | F6 | 400 | (s : St) | [stV s] | (a b e : Int) | .tup [.int false .i64 a, .int false .i64 b, .int false .i64 e]
--@end
--@cond rresult | 19 | F6 | 400 | (s : St) | [stV s] | (a b e : Int) | .tup [.int false .i64 a, .int false .i64 b, .int false .i64 e]
--@end
--@cond same | 12 | F6 | 400 | (a b : St) | [stV a, stV b] | (q : Bool) | .bool false q
--@end
end Go.Proofs.YtcaomfbcchemnaaDoor

/- Chapter 21: runs of the machine, shown once for every heap. -/
namespace Go.Proofs.YtcaomfbcchemnaaDoor
open Go
set_option linter.unusedVariables false
set_option linter.unusedSimpArgs false
theorem start_pure (f : Int) : PureC E 13 [.int false .i64 f] (.tup [stV (startF f).1, .int false .i64 (startF f).2]) := by
  refine pure_of_call E_ok (callOk_of E_ok F6_ok 400) ?_
  rw [cond_start]
  simp only [bif_true, bif_false, bif_nt, bif_tf, bif_ft, beq_iff_eq, bne_iff_ne, beq_eq_false_iff_ne, bne_eq_false_iff_eq, decide_eq_true_eq, decide_eq_false_iff_not, Bool.or_eq_true, Bool.or_eq_false_iff, Bool.not_eq_true', Bool.not_eq_false', Bool.and_eq_true, Bool.and_true, Bool.true_and, Bool.and_eq_false_iff, beq_self_eq_true, mm2_max, mm2_min, ne_eq, and_true, true_and, Bool.true_eq_false, Bool.false_eq_true, false_or, or_false, true_implies, Int.ofNat_eq_natCast, not_true_eq_false, not_false_eq_true, Decidable.not_not, gt_iff_lt, ge_iff_le]
  refine ⟨fun b => (b = true ↔ (f < 0 ∨ 32768 < f)), ⟨fun h => by simp [h], fun h => ⟨fun h' => by simp [h'], fun h' => by simp; omega⟩⟩, fun hQ => ?_, fun hQ => ?_⟩
  · have hQ := hQ.1 rfl
    unfold startF; rw [if_pos hQ]; simp [St.zero]
  · have hQ : ¬ (f < 0 ∨ 32768 < f) := fun h => absurd (hQ.2 h) (by simp)
    unfold startF; rw [if_neg hQ]; simp [St.start]
theorem step_pure (c : List Ins) (v : Env) (s : St) : PureC E 15 [.psl .ins c false, envV v, stV s] (.tup [stV (stepF c v s).1, .int false .i64 (stepF c v s).2]) := by
  refine pure_of_call E_ok (callOk_of E_ok F6_ok 400) ?_
  rw [cond_step]
  simp only [bif_true, bif_false, bif_nt, bif_tf, bif_ft, beq_iff_eq, bne_iff_ne, beq_eq_false_iff_ne, bne_eq_false_iff_eq, decide_eq_true_eq, decide_eq_false_iff_not, Bool.or_eq_true, Bool.or_eq_false_iff, Bool.not_eq_true', Bool.not_eq_false', Bool.and_eq_true, Bool.and_true, Bool.true_and, Bool.and_eq_false_iff, beq_self_eq_true, mm2_max, mm2_min, ne_eq, and_true, true_and, Bool.true_eq_false, Bool.false_eq_true, false_or, or_false, true_implies, Int.ofNat_eq_natCast, not_true_eq_false, not_false_eq_true, Decidable.not_not, gt_iff_lt, ge_iff_le]
  refine ⟨fun hs => ?_, fun hs => ⟨fun hv => ⟨fun _ => ?_, fun h => absurd h hv⟩, fun hv => ?_⟩⟩
  · have hr : readyF c s 0 = 211 := by unfold readyF; rw [if_pos hs]
    unfold stepF; rw [hr]; simp [St.zero]
  · have hr : readyF c s 0 = (verF c).2 := by unfold readyF; rw [if_neg (by simpa using hs), if_pos hv]
    unfold stepF; rw [hr, if_pos hv]; simp [St.zero]
  have hr : readyF c s 0 = if s.pc < 0 ∨ c.length ≤ s.pc ∨ s.fuel < 0 ∨ 32768 < s.fuel ∨ s.clause ≠ 0 ∨ (0 : Int) < 0 ∨ 64 < (0 : Int) ∨ 64 - (0 : Int) < s.stack.length then 1 else 0 := by
    unfold readyF; rw [if_neg (by simpa using hs), if_neg (by simpa using hv)]
  refine ⟨fun b => (b = true ↔ (s.pc < 0 ∨ c.length ≤ s.pc ∨ s.fuel < 0 ∨ 32768 < s.fuel ∨ s.clause ≠ 0 ∨ 64 < (s.stack.length : Int))), ?_, fun hQ => ?_, fun hQ => ?_⟩
  · repeat' (first | (refine And.intro ?_ ?_) | (intro h))
    all_goals simp only [eq_self, true_iff, Bool.false_eq_true, false_iff]
    all_goals omega
  · have hQ := hQ.1 rfl
    rw [if_pos (by omega)] at hr
    unfold stepF; rw [hr]; simp [St.zero]
  · have hQ : ¬ (s.pc < 0 ∨ c.length ≤ s.pc ∨ s.fuel < 0 ∨ 32768 < s.fuel ∨ s.clause ≠ 0 ∨ 64 < (s.stack.length : Int)) := fun h => absurd (hQ.2 h) (by simp)
    rw [if_neg (by omega)] at hr
    obtain ⟨D, hD⟩ := verF_safe hv
    refine ⟨⟨hD.short, by omega, by omega, fun x hx => hD.formed _ _ hx, by omega, by omega, by omega, by omega, by omega⟩, ?_⟩
    unfold stepF; rw [hr]; simp
end Go.Proofs.YtcaomfbcchemnaaDoor

/- A symbolic executor, part ZC: arguments that read as data; all memory stays. -/
namespace Go.Proofs.YtcaomfbcchemnaaDoor
open Go.ChangeShapes Go.WideShapes Go.ChangeAt Go.RowKit
set_option linter.unusedVariables false
set_option linter.unusedSimpArgs false

section
variable {Y : Thy} {E : Eng Y}
/-- all the memory there is stays -/
def gTop (w : World) : GH :=
  { cell := fun r o => w.cell? ⟨r, o, none⟩
    obj := fun r => match w.heap[r]? with | some (.map es _) => some es | _ => none }
theorem inv_top {w : World} (hg : ∀ n sv, E.glob n = some sv → ∀ (j : Nat) s, sv.cells[j]? = some s → ∃ v, w.cell? ⟨n, j, none⟩ = some v ∧ Den E (fun _ => none) (gTop w) s v) : Inv E w.heap.size σ0 hp0 (gTop w) w := by
  refine ⟨fun r o v hv => hv, fun r es hv => ?_, (fun b x hx => by cases hx), fun b b' r z z' h1 => absurd rfl h1, (fun b r z hs => by cases hs), (fun b x r z o v hx => by cases hx), (fun b x r z hx => by cases hx), hg⟩
  have hv : (match w.heap[r]? with | some (.map es _) => some es | _ => none) = some es := hv
  split at hv
  · rename_i es' c hc
    cases hv
    exact ⟨c, hc⟩
  · cases hv
end

section
variable {H : Type} {enc : TypeId × Value → H} {P : Program} {w : World} {spare : Nat → Bool} {held : Bool} {fuel : Nat} {t : TypeId} {cs : List Value} {x : DataW H × List MemPlace}
theorem one_int {k : IntKind} (ht : P.underlying t = some (.int k)) (h : DataW.trod enc P w 0 spare held fuel t cs = some x) : ∃ n, cs = [.int k n] ∧ (Lit.int k n).wf = true := by
  cases fuel with
  | zero => simp [DataW.trod] at h
  | succ m =>
    unfold DataW.trod at h
    rw [ht] at h
    split at h <;> simp_all
theorem psl_of_trod {Y : Thy} {E : Eng Y} {th : Y.Th} {e : TypeId} (hw : ∀ a, (E.enc th a).length = E.w th) (hp : 0 < E.w th) (ht : P.underlying t = some (.slice e)) (hk : P.cellsOf e = E.w th)
    (h : DataW.trod enc P w 0 spare held fuel t cs = some x) (hR : ∀ n cs' y, DataW.trod enc P w 0 spare held n e cs' = some y → ∃ a, ∀ (j : Nat) sv, (E.enc th a)[j]? = some sv → ∃ v, cs'[j]? = some v ∧ Den E σ0 (gTop w) sv v) :
    ∃ sv l, cs = [sv] ∧ Den E σ0 (gTop w) (.psl th l false) sv := by
  rcases DataW.trod_slice ht h with ⟨h0, _⟩ | ⟨a, len, cap, elems, rest, n, hf, hcs, _, _, hl, hc, hel, hcell, _⟩
  · exact ⟨_, [], h0, .psl (l := []) (fun _ _ => undef) (Nat.le_refl _) (by unfold maxLen; omega) (by simp) (fun _ => rfl) (by simp) (by simp)⟩
  · have hall : ∀ i, i < len → ∃ p : List Value × Y.dom th, w.cells? 0 (a.add (i * E.w th)) (E.w th) = some p.1 ∧ ∀ (j : Nat) sv, (E.enc th p.2)[j]? = some sv → ∃ v, p.1[j]? = some v ∧ Den E σ0 (gTop w) sv v := by
      intro i hi
      have h1 := hcell i hi
      rw [List.getElem?_eq_getElem (by omega)] at h1
      obtain ⟨cs', hc1, hc2⟩ := Option.bind_eq_some_iff.1 h1
      obtain ⟨y, hy⟩ := hR n cs' _ hc2
      exact ⟨(cs', y), by rw [← hk]; exact hc1, hy⟩
    rcases Nat.eq_zero_or_pos len with h0 | h0
    · subst h0
      exact ⟨_, [], hcs, .psl (l := []) (fun _ _ => undef) hl hc (by simp) (fun h => by cases h) (fun hp => by simp at hp) (by simp)⟩
    have : Inhabited (List Value × Y.dom th) := ⟨(hall 0 h0).choose⟩
    obtain ⟨f, hfam⟩ := Go.Deep.choose_lt (α := List Value × Y.dom th) hall
    have hb0 : a.spot = none := by
      have h1 := (hfam 0 h0).1
      obtain ⟨_, hlen, hcl⟩ := World.cells?_some h1
      have h2 := hcl 0 hp
      rw [List.getElem?_eq_getElem (by omega)] at h2
      simp only [Nat.zero_mul, Addr.add, if_true] at h2
      unfold World.cell? at h2
      split at h2
      · split at h2
        · cases h2
        · rename_i hs; simpa using hs
      · cases h2
    obtain ⟨b, o, s⟩ := a
    obtain rfl : s = none := hb0
    have cell : ∀ i, i < len → ∀ j, j < E.w th → w.cell? ⟨b, o + i * E.w th + j, none⟩ = (f i).1[j]? := by
      intro i hi j hj
      obtain ⟨_, hlen, hcl⟩ := World.cells?_some (hfam i hi).1
      have := hcl j hj
      rw [Go.Deep.add_add, add_at] at this
      rw [Nat.add_assoc]; exact this
    have hlen : ((List.range len).map fun i => (f i).2).length = len := by simp
    have get : ∀ (i : Nat) y, ((List.range len).map fun i => (f i).2)[i]? = some y → i < len ∧ (f i).2 = y := by
      intro i y hi
      have hilt : i < len := by have := (List.getElem?_eq_some_iff.1 hi).1; simpa using this
      exact ⟨hilt, by simpa [hilt] using hi⟩
    refine ⟨.slice (some ⟨b, o, none⟩) len cap, (List.range len).map fun i => (f i).2, hcs, ?_⟩
    have := Den.psl (E := E) (σ := σ0) (g := gTop w) (th := th) (l := (List.range len).map fun i => (f i).2) (full := false) (base := some ⟨b, o, none⟩) (c := cap) (fun i j => (f i).1.getD j undef) (by omega) hc (by simp) (fun h => by cases h)
      (fun _ => ⟨b, o, rfl, fun i y hy j hj => ?_⟩) (fun i y hy j sv hj => ?_)
    · rw [hlen] at this; exact this
    · obtain ⟨hi, _⟩ := get i y hy
      rw [hw] at hj
      obtain ⟨_, hl2, _⟩ := World.cells?_some (hfam i hi).1
      show w.cell? _ = _
      rw [cell i hi j hj, List.getD_eq_getElem?_getD, List.getElem?_eq_getElem (by omega)]; rfl
    · obtain ⟨hi, rfl⟩ := get i y hy
      obtain ⟨v, h1, h2⟩ := (hfam i hi).2 j sv hj
      rw [List.getD_eq_getElem?_getD, h1]; exact h2
theorem agg_of_cells {v : Value} {n : Nat} (h : v.cells.toList.length = n) (hn : n ≠ 1) : v = .agg v.cells.toList.toArray := by
  cases v <;> simp_all [Value.cells]
end
end Go.Proofs.YtcaomfbcchemnaaDoor

/- The row's last step, for every law: it returns true, and what was there lies there unchanged. -/
namespace Go.Proofs.YtcaomfbcchemnaaDoor
open Go.ChangeShapes Go.WideShapes Go.ChangeAt Go.RowKit
set_option linter.unusedVariables false

theorem Tryd.own : ownKnob Tryd.prog.godebug = none := by kernel_rfl
theorem Tryd.laidOut : laidOutB Tryd.prog = true := by kernel_rfl

section
variable {H : Type} {enc : TypeId × Value → H} {P : Program}
theorem trodAll_stays (hl : laidOutB P = true) {W W' : World} {sp' : Nat → Bool} : ∀ {ts : List TypeId} {vs : List Value} {ds : List (DataW H)} {ps : List MemPlace}, (ts.all fun t => P.readableRec t && decide (t < P.types.size)) = true →
    DataW.TrodAll enc P W 0 (fun _ => true) true ts vs ds ps → (∀ x ∈ ps, W.sameAt W' x) → (∀ x ∈ ps, sp' x.block = true) → DataW.TrodAll enc P W' 0 sp' true ts vs ds ps := by
  intro ts
  induction ts with
  | nil =>
    intro vs ds ps _ h _ _
    obtain ⟨rfl, rfl, rfl⟩ := trodAll_nil h
    rfl
  | cons t ts ih =>
    intro vs ds ps ht h hs hp
    obtain ⟨v, vs', d, ds', p, q, rfl, rfl, rfl, hd, hr⟩ := trodAll_cons h
    simp only [List.all_cons, Bool.and_eq_true, decide_eq_true_eq] at ht
    exact ⟨p, q, WideElems.Trod_stays hl ht.1.1 ht.1.2 hd (fun x hx => hs x (by simp [hx])) (fun x hx => hp x (by simp [hx])),
      ih (by simpa using ht.2) hr (fun x hx => hs x (by simp [hx])) (fun x hx => hp x (by simp [hx])), rfl⟩

/-- The result true, the arguments as they were. -/
theorem post_true {f : Func} {s : ChangeSpec} {handsOn again : Bool} {W W' : World} {args : Array Value} {ds gs : List (DataW H)} {before : List MemPlace} {tb : TypeId} (hl : laidOutB P = true) (hr : f.resultTypes = #[tb]) (hb : P.underlying tb = some .bool)
    (hp : (f.params.toList.all fun t => P.readableRec t && decide (t < P.types.size)) = true) (hv : s.vars = []) (hW : DataW.Whole enc P f.params.toList s.vars false W args.toList ds gs before)
    (hres : (s.fn H (ds ++ gs)).results = [.lit (.bool true)]) (harg : (s.fn H (ds ++ gs)).args = ds) (hvar : (s.fn H (ds ++ gs)).vars = []) (hx : Ext W W') :
    s.post enc P f false true handsOn again W args (.bool true) W' := by
  have hbel : Below W.heap.size W W' := hx
  have hlt : ∀ p ∈ before, p.block < W.heap.size := fun p hp => hW.lt p hp
  have hW' := hW
  obtain ⟨pa, pv, hA, hV, hbe, hz, hn⟩ := hW
  rw [hv] at hV
  obtain ⟨hg, hpv⟩ := trodVars_none hV
  subst hpv
  rw [List.append_nil] at hbe
  subst hbe
  have hargs : ∀ sp : Nat → Bool, (∀ p ∈ before, sp p.block = true) → DataW.TrodAll enc P W' 0 sp true f.params.toList args.toList (s.fn H (ds ++ gs)).args before := fun sp h => by
    rw [harg]
    exact trodAll_stays hl hp hA (fun x hx => hbel.same (hlt x hx)) h
  have hvars : ∀ sp : Nat → Bool, DataW.TrodVars enc P W' sp s.vars (s.fn H (ds ++ gs)).vars [] := fun sp => by rw [hv, hvar]; rfl
  have hrs : ∀ (b : Nat) (sp : Nat → Bool) (hd : Bool), DataW.TrodAll enc P W' b sp hd f.resultTypes.toList ((Value.bool true).resultList f.resultTypes.size) (s.fn H (ds ++ gs)).results [] := fun b sp hd => by
    rw [hr, hres]
    exact ⟨[], [], shut_bool hb true, rfl, rfl⟩
  refine ⟨ds, gs, before, [], before, [], hW', hrs _ _ _, hargs _ (fun p hp => by simpa using hlt p hp), hvars _, World.keptBut_mono (fun p hp => ⟨hp, ?_⟩) (hbel.frame (· ∈ before)), fun _ => ?_⟩
  · simpa using hp
  · refine ⟨?_, _, _, ([] ++ before) ++ [], ⟨[] ++ before, [], trodAll_append (hargs _ (fun _ _ => rfl)) (hrs _ _ _), hvars _, rfl, ?_, ?_⟩, ?_⟩
    · intro j t r hj hrj
      rw [hr] at hj hrj
      match j, hj, hrj with
      | 0, hj, hrj =>
        obtain rfl : tb = t := by simpa using hj
        obtain rfl : Value.bool true = r := by simpa [Value.resultList] using hrj
        exact okWide_bool_mk hb true
      | j + 1, hj, hrj => simp at hj
    · intro b off hp
      have hin : MemPlace.cell b off ∈ before := by simpa using hp
      rw [hbel.frozen (hlt _ hin)]
      exact hz b off hin
    · intro ha; cases ha
    · intro p hp _
      simpa using hp
end
end Go.Proofs.YtcaomfbcchemnaaDoor

/- Chapter 21: the laws' last step: the laid variable, the arguments, the cards. -/
namespace Go.Proofs.YtcaomfbcchemnaaDoor
open Go.ChangeShapes Go.WideShapes Go.ChangeAt Go.RowKit
set_option linter.unusedVariables false
set_option linter.unusedSimpArgs false

/-! The laid variable. -/
theorem gBin : Tryd.prog.globalNamed "wagonpool/tvm.binaries" = some 0 := by kernel_rfl
theorem tBin : (Tryd.prog.globals[0]?).map (·.type) = some 105 := by kernel_rfl
abbrev laidB : List (String × DataW Unit) := [("wagonpool/tvm.binaries", Rows.laid_wagonpool_tvm_binaries)]
def binD : List (Lit × DataW (List UInt8)) := [(.int .i64 3, .agg [.held [119, 97, 103, 111, 110, 112, 111, 111, 108, 47, 109, 111, 110, 101, 121, 46, 65, 100, 100]]), (.int .i64 4, .agg [.held [119, 97, 103, 111, 110, 112, 111, 111, 108, 47, 109, 111, 110, 101, 121, 46, 83, 117, 98]]), (.int .i64 5, .agg [.held [119, 97, 103, 111, 110, 112, 111, 111, 108, 47, 109, 111, 110, 101, 121, 46, 77, 117, 108]]), (.int .i64 6, .agg [.held [119, 97, 103, 111, 110, 112, 111, 111, 108, 47, 116, 118, 109, 46, 98, 105, 110, 97, 114, 105, 101, 115, 36, 49]]), (.int .i64 7, .agg [.held [119, 97, 103, 111, 110, 112, 111, 111, 108, 47, 116, 118, 109, 46, 98, 105, 110, 97, 114, 105, 101, 115, 36, 50]]), (.int .i64 8, .agg [.held [119, 97, 103, 111, 110, 112, 111, 111, 108, 47, 116, 118, 109, 46, 98, 105, 110, 97, 114, 105, 101, 115, 36, 51]]), (.int .i64 9, .agg [.held [119, 97, 103, 111, 110, 112, 111, 111, 108, 47, 116, 118, 109, 46, 98, 105, 110, 97, 114, 105, 101, 115, 36, 52]]), (.int .i64 10, .agg [.held [119, 97, 103, 111, 110, 112, 111, 111, 108, 47, 116, 118, 109, 46, 98, 105, 110, 97, 114, 105, 101, 115, 36, 53]]), (.int .i64 11, .agg [.held [119, 97, 103, 111, 110, 112, 111, 111, 108, 47, 116, 118, 109, 46, 98, 105, 110, 97, 114, 105, 101, 115, 36, 54]])]
theorem sorted_mem {H : Type} {p : Lit × DataW H} : ∀ {l : List (Lit × DataW H)}, p ∈ l.foldr DataW.insert [] ↔ p ∈ l
  | [] => Iff.rfl
  | x :: l => by
    rw [List.foldr_cons, (insert_perm x _).mem_iff, List.mem_cons, List.mem_cons, sorted_mem]
theorem bin_val {w : World} {n : Nat} {v : Value} {y : DataW (List UInt8) × List MemPlace} {b : UInt8} {r : List UInt8} {f0 : FuncId} (hone : ((List.range Tryd.prog.funcs.size).filter fun f => (Tryd.prog.funcs[f]?).any (·.name.toUTF8.data.toList == b :: r)) = [f0])
    (h : WideElems.elemAt (funcToken Tryd.prog) Tryd.prog w 0 (fun _ => true) true n 103 v = some y) (hy : y.1 = .agg [.held (b :: r)]) : v = .agg #[.func (.func f0) #[] #[]] := by
  unfold WideElems.elemAt at h
  split at h
  · rename_i hfo
    obtain ⟨xs, m, rfl, rfl, hl, hxl, hf⟩ := DataW.trod_struct Tryd.underlying103 h
    have c103 : Tryd.prog.cellsOf 103 = 1 := by kernel_rfl
    have hx1 : xs.length = 1 := by simpa using hxl
    have h0 := hf 0 _ rfl
    have c101 : Tryd.prog.cellsOf 101 = 1 := by kernel_rfl
    obtain ⟨x0, rfl⟩ : ∃ x0, xs = [x0] := by
      match xs, hx1 with
      | [x0], _ => exact ⟨x0, rfl⟩
    simp only [List.map_cons, List.map_nil, DataW.agg.injEq, List.cons.injEq, and_true] at hy
    cases v with
    | agg cs =>
      have hcs : cs.toList.length = 1 := by rw [← c103]; simpa [Value.cells] using hl
      obtain ⟨v0, hv0⟩ : ∃ v0, cs.toList = [v0] := by
        match hq : cs.toList, hcs with
        | [v0], _ => exact ⟨v0, rfl⟩
      have h0 : DataW.trod (funcToken Tryd.prog) Tryd.prog w 0 (fun _ => true) true m 101 [v0] = some x0 := by
        have h0' : DataW.trod (funcToken Tryd.prog) Tryd.prog w 0 (fun _ => true) true m 101 ((((Value.agg cs).cells.toList).drop 0).take (Tryd.prog.cellsOf 101)) = some x0 := h0
        rw [c101] at h0'
        have e : (Value.agg cs).cells.toList = [v0] := hv0
        rw [e] at h0'
        exact h0'
      have hx0 : x0 = (.held (b :: r), x0.2) := by rw [← hy]
      rw [hx0] at h0
      have := func_of_trod (f0 := f0) Tryd.underlying101 hone h0
      subst this
      rw [show cs = #[.func (.func f0) #[] #[]] from by rw [← Array.toList_inj]; exact hv0]
    | _ => exact absurd hfo (by simp [Value.formed, Tryd.underlying103])
  · cases h
theorem key_intP {P : Program} {t : TypeId} {q : IntKind} (ht : P.underlying t = some (.int q)) {v : Value} {n : Int} (h : keyOf P t v = some (.int q n)) : v = .int q n := by
  unfold keyOf at h
  rw [ht] at h
  simp only [] at h
  unfold mapKey at h
  rw [ht] at h
  cases v with
  | int q' m =>
    simp only [] at h
    split at h
    · rename_i hq
      cases h
      rw [hq.1]
    · cases h
  | _ => simp at h
theorem key_int {v : Value} {n : Int} (h : keyOf Tryd.prog 3 v = some (.int .i64 n)) : v = .int .i64 n := key_intP Tryd.underlying3 h

abbrev binLs : List (Value × SV thy) := [binE 3 104, binE 4 105, binE 5 106, binE 6 107, binE 7 108, binE 8 109, binE 9 111, binE 10 112, binE 11 113]
def binFn (j : Nat) : Nat := [104, 105, 106, 107, 108, 109, 111, 112, 113].getD j 0
theorem bin_at : ∀ (j : Nat) p, binLs[j]? = some p → p = binE (j + 3) (binFn j)
  | 0, p, h => by cases h; rfl
  | 1, p, h => by cases h; rfl
  | 2, p, h => by cases h; rfl
  | 3, p, h => by cases h; rfl
  | 4, p, h => by cases h; rfl
  | 5, p, h => by cases h; rfl
  | 6, p, h => by cases h; rfl
  | 7, p, h => by cases h; rfl
  | 8, p, h => by cases h; rfl
  | j + 9, p, h => by simp [binLs] at h
theorem bin_get : ∀ (j : Nat) p, binLs[j]? = some p → binLs[j]? = some (binE (j + 3) (binFn j)) := fun j p h => by rw [h, bin_at j p h]
set_option maxRecDepth 100000 in
theorem of_laid {W : World} (h : laidMetH Tryd.prog laidB W) : ∃ v, W.cell? ⟨0, 0, none⟩ = some v ∧ Den E (fun _ => none) (gTop W) (.pmap [binE 3 104, binE 4 105, binE 5 106, binE 6 107, binE 7 108, binE 8 109, binE 9 111, binE 10 112, binE 11 113]) v := by
  obtain ⟨g, t, cs, fuel, p, hg, ht, hv, hd⟩ := h.funcs (List.mem_singleton.2 rfl)
  obtain rfl := Option.some.inj (gBin.symm.trans hg)
  obtain rfl := Option.some.inj (tBin.symm.trans ht)
  have hd' : DataW.trod (funcToken Tryd.prog) Tryd.prog W 0 (fun _ => true) true fuel 105 cs.toList = some (.map binD, p) := hd
  rcases WideElems.open_map Tryd.underlying105 hd' with ⟨_, hx⟩ | ⟨b, es, clk, n, rfl, hcs, hb, _, F, hx⟩
  · simp at hx
  simp only [Prod.mk.injEq, DataW.map.injEq] at hx
  have hmem : ∀ q, q ∈ binD ↔ q ∈ es.toList.map (WideElems.rg Tryd.prog 3 (WideElems.elemAt (funcToken Tryd.prog) Tryd.prog W 0 (fun _ => true) true n 103)) := fun q => by rw [hx.1]; exact sorted_mem
  have hcell : W.cell? ⟨0, 0, none⟩ = some (.map (some b)) := by
    have := World.var?_cell hg hv 0
    rw [Array.eq_one_of_toList hcs] at this
    simpa using this
  refine ⟨_, hcell, ?_⟩
  -- an entry: its key, its value
  have entry : ∀ e ∈ es.toList, ∃ y, keyOf Tryd.prog 3 e.key = some (WideElems.rg Tryd.prog 3 (WideElems.elemAt (funcToken Tryd.prog) Tryd.prog W 0 (fun _ => true) true n 103) e).1 ∧
      WideElems.elemAt (funcToken Tryd.prog) Tryd.prog W 0 (fun _ => true) true n 103 e.val = some y ∧ y.1 = (WideElems.rg Tryd.prog 3 (WideElems.elemAt (funcToken Tryd.prog) Tryd.prog W 0 (fun _ => true) true n 103) e).2 := by
    intro e he
    obtain ⟨z, hz⟩ := F.reads e he
    have hrg : WideElems.rg Tryd.prog 3 (WideElems.elemAt (funcToken Tryd.prog) Tryd.prog W 0 (fun _ => true) true n 103) e = z := by unfold WideElems.rg; rw [hz]; rfl
    rw [hrg]
    unfold WideElems.rd at hz
    simp only [Option.bind_eq_some_iff, Option.map_eq_some_iff] at hz
    obtain ⟨key, h1, y, h2, rfl⟩ := hz
    exact ⟨y, h1, h2, rfl⟩
  have one : ∀ (j : Nat) (k f0 : Nat) (nm : List UInt8), binD[j]? = some (.int .i64 k, .agg [.held nm]) → (∃ b r, nm = b :: r) → ((List.range Tryd.prog.funcs.size).filter fun f => (Tryd.prog.funcs[f]?).any (·.name.toUTF8.data.toList == nm)) = [f0] →
      ∀ e ∈ es.toList, WideElems.rg Tryd.prog 3 (WideElems.elemAt (funcToken Tryd.prog) Tryd.prog W 0 (fun _ => true) true n 103) e = (.int .i64 k, .agg [.held nm]) → e.key = .int .i64 k ∧ e.val = .agg #[.func (.func f0) #[] #[]] := by
    rintro j k f0 nm hj ⟨b0, r0, rfl⟩ hone e he hrg
    obtain ⟨y, h1, h2, h3⟩ := entry e he
    rw [hrg] at h1 h3
    exact ⟨key_int h1, bin_val hone h2 h3⟩
  have all : ∀ e ∈ es.toList, ∃ (j : Nat) (k f0 : Nat), binLs[j]? = some (binE k f0) ∧ e.key = .int .i64 k ∧ e.val = .agg #[.func (.func f0) #[] #[]] := by
    intro e he
    have hq : WideElems.rg Tryd.prog 3 (WideElems.elemAt (funcToken Tryd.prog) Tryd.prog W 0 (fun _ => true) true n 103) e ∈ binD := (hmem _).2 (List.mem_map_of_mem he)
    simp only [binD, List.mem_cons, List.not_mem_nil, or_false] at hq
    rcases hq with hq | hq | hq | hq | hq | hq | hq | hq | hq
    · exact ⟨0, 3, 104, rfl, one 0 3 104 _ rfl ⟨_, _, rfl⟩ (by kernel_rfl) e he hq⟩
    · exact ⟨1, 4, 105, rfl, one 1 4 105 _ rfl ⟨_, _, rfl⟩ (by kernel_rfl) e he hq⟩
    · exact ⟨2, 5, 106, rfl, one 2 5 106 _ rfl ⟨_, _, rfl⟩ (by kernel_rfl) e he hq⟩
    · exact ⟨3, 6, 107, rfl, one 3 6 107 _ rfl ⟨_, _, rfl⟩ (by kernel_rfl) e he hq⟩
    · exact ⟨4, 7, 108, rfl, one 4 7 108 _ rfl ⟨_, _, rfl⟩ (by kernel_rfl) e he hq⟩
    · exact ⟨5, 8, 109, rfl, one 5 8 109 _ rfl ⟨_, _, rfl⟩ (by kernel_rfl) e he hq⟩
    · exact ⟨6, 9, 111, rfl, one 6 9 111 _ rfl ⟨_, _, rfl⟩ (by kernel_rfl) e he hq⟩
    · exact ⟨7, 10, 112, rfl, one 7 10 112 _ rfl ⟨_, _, rfl⟩ (by kernel_rfl) e he hq⟩
    · exact ⟨8, 11, 113, rfl, one 8 11 113 _ rfl ⟨_, _, rfl⟩ (by kernel_rfl) e he hq⟩
  have back : ∀ (j : Nat) (k f0 : Nat), binLs[j]? = some (binE k f0) → ∃ e ∈ es.toList, e.key = .int .i64 k := by
    intro j k f0 hj
    obtain ⟨d, hd⟩ : ∃ d, ((.int .i64 k : Lit), d) ∈ binD := by
      match j, hj with
      | 0, hj => cases hj; exact ⟨_, by simp [binD]; try rfl⟩
      | 1, hj => cases hj; exact ⟨_, by simp [binD]; try rfl⟩
      | 2, hj => cases hj; exact ⟨_, by simp [binD]; try rfl⟩
      | 3, hj => cases hj; exact ⟨_, by simp [binD]; try rfl⟩
      | 4, hj => cases hj; exact ⟨_, by simp [binD]; try rfl⟩
      | 5, hj => cases hj; exact ⟨_, by simp [binD]; try rfl⟩
      | 6, hj => cases hj; exact ⟨_, by simp [binD]; try rfl⟩
      | 7, hj => cases hj; exact ⟨_, by simp [binD]; try rfl⟩
      | 8, hj => cases hj; exact ⟨_, by simp [binD]; try rfl⟩
      | j + 9, hj => simp at hj
    obtain ⟨e, he, hrg⟩ := List.mem_map.1 ((hmem _).1 hd)
    obtain ⟨y, h1, h2, h3⟩ := entry e he
    rw [hrg] at h1
    exact ⟨e, he, key_int h1⟩
  refine Den.pmap (ents := es) (fun j => .agg #[.func (.func (binFn j)) #[] #[]]) .i64 ?_ ?_ ?_ ?_ ?_ ?_
  · show (match W.heap[b]? with | some (.map es _) => some es | _ => none) = some es
    rw [hb]
  · intro j k sv hj
    have := bin_at j _ hj
    cases this
    exact ⟨_, rfl⟩
  · intro j j' k sv sv' hj hj'
    have e1 := congrArg Prod.fst (bin_at j _ hj)
    have e2 := congrArg Prod.fst (bin_at j' _ hj')
    have e3 : (Value.int .i64 ((j + 3 : Nat) : Int)) = .int .i64 ((j' + 3 : Nat) : Int) := e1.symm.trans e2
    injection e3 with _ e4
    omega
  · intro e he
    obtain ⟨j, k, f0, hj, hk, hv⟩ := all e he
    have e1 := bin_at j _ hj
    refine ⟨j, .agg [.fn (.func f0) [] []], by rw [hk]; exact hj, ?_⟩
    rw [hv]
    have e2 := congrArg Prod.snd e1
    have e2 : (SV.agg [SV.fn (.func f0) [] []] : SV thy) = .agg [.fn (.func (binFn j)) [] []] := e2
    injection e2 with e3
    injection e3 with e4 _
    injection e4 with e5
    rw [e5]
  · intro j k sv hj
    have e1 := congrArg Prod.fst (bin_at j _ hj)
    obtain ⟨e, he, hk⟩ := back j (j + 3) (binFn j) (bin_get j _ hj)
    exact ⟨e, he, hk.trans e1.symm⟩
  · intro j k sv hj
    have e1 := congrArg Prod.snd (bin_at j _ hj)
    have e1 : sv = .agg [.fn (.func (binFn j)) [] []] := e1
    rw [e1]
    refine .agg (fun _ => .func (.func (binFn j)) #[] #[]) rfl (fun q hq => ?_) (fun q sv' hq => ?_)
    · match q, hq with
      | 0, _ => rfl
    · match q, hq with
      | 0, hq =>
        cases hq
        exact .fn (fun _ => undef) (fun _ => undef) rfl (fun q hq => absurd hq (Nat.not_lt_zero _)) (fun q sv hq => by simp at hq) rfl (fun q hq => absurd hq (Nat.not_lt_zero _)) (fun q sv hq => by simp at hq)

/-! The arguments. -/
section
variable {H : Type} {enc : TypeId × Value → H} {w : World} {spare : Nat → Bool} {held : Bool}
theorem cells3 : Tryd.prog.cellsOf 3 = 1 := by kernel_rfl
theorem cells24 : Tryd.prog.cellsOf 24 = 16 := by kernel_rfl
theorem cells26 : Tryd.prog.cellsOf 26 = 17 := by kernel_rfl
theorem cells47 : Tryd.prog.cellsOf 47 = 3 := by kernel_rfl
theorem len3 {cs : List Value} (h : cs.length = 3) : ∃ a b c, cs = [a, b, c] := by
  match cs, h with
  | [a, b, c], _ => exact ⟨a, b, c, rfl⟩
theorem ins_of_trod (fuel : Nat) (cs : List Value) (x : DataW H × List MemPlace) (h : DataW.trod enc Tryd.prog w 0 spare held fuel 47 cs = some x) : ∃ a : Ins, ∀ (j : Nat) sv, (E.enc Th.ins a)[j]? = some sv → ∃ v, cs[j]? = some v ∧ Den E σ0 (gTop w) sv v := by
  obtain ⟨xs, n, rfl, _, hl, hxl, hf⟩ := DataW.trod_struct Tryd.underlying47 h
  rw [cells47] at hl
  obtain ⟨a, b, c, rfl⟩ := len3 hl
  have hx3 : xs.length = 3 := by simpa using hxl
  have h0 := hf 0 _ rfl
  have h1 := hf 1 _ rfl
  have h2 := hf 2 _ rfl
  rw [List.getElem?_eq_getElem (by omega)] at h0 h1 h2
  simp only [List.getElem_toArray, List.getElem_cons_zero, List.getElem_cons_succ, cells3, List.drop_zero, List.drop_succ_cons, List.take_succ_cons, List.take_zero] at h0 h1 h2
  obtain ⟨p, hp, _⟩ := one_int Tryd.underlying3 h0
  obtain ⟨q, hq, _⟩ := one_int Tryd.underlying3 h1
  obtain ⟨r, hr, _⟩ := one_int Tryd.underlying3 h2
  simp only [List.cons.injEq, and_true] at hp hq hr
  subst hp hq hr
  refine ⟨⟨p, q, r⟩, fun j sv hj => ?_⟩
  match j, hj with
  | 0, hj => cases hj; exact ⟨_, rfl, .int _ _ _⟩
  | 1, hj => cases hj; exact ⟨_, rfl, .int _ _ _⟩
  | 2, hj => cases hj; exact ⟨_, rfl, .int _ _ _⟩
theorem num_of_trod (fuel : Nat) (cs : List Value) (x : DataW H × List MemPlace) (h : DataW.trod enc Tryd.prog w 0 spare held fuel 3 cs = some x) : ∃ a : Int, ∀ (j : Nat) sv, (E.enc Th.ints a)[j]? = some sv → ∃ v, cs[j]? = some v ∧ Den E σ0 (gTop w) sv v := by
  obtain ⟨p, rfl, _⟩ := one_int Tryd.underlying3 h
  refine ⟨p, fun j sv hj => ?_⟩
  match j, hj with
  | 0, hj => cases hj; exact ⟨_, rfl, .int _ _ _⟩
set_option maxRecDepth 100000 in
theorem open_code {r : Reach} {b0 : Nat} {v : Value} {d : DataW H} {ps : List MemPlace} (hval : Value.okWide Tryd.prog w r b0 23 v) (h : DataW.Trod enc Tryd.prog w 0 spare held 23 v d ps) : ∃ l : List Ins, Den E σ0 (gTop w) (.psl Th.ins l false) v := by
  obtain ⟨a, len, cap, rfl⟩ := okWide_slice Tryd.underlying23 hval
  obtain ⟨fuel, h⟩ := h
  obtain ⟨sv, l, h1, h2⟩ := psl_of_trod (E := E) (th := Th.ins) (fun _ => rfl) (by decide) Tryd.underlying23 cells47 h (fun n cs' y hy => ins_of_trod n cs' y hy)
  have h1 : [Value.slice a len cap] = [sv] := h1
  cases h1
  exact ⟨l, h2⟩
set_option maxHeartbeats 1000000 in
theorem open_env {v : Value} {d : DataW H} {ps : List MemPlace} (h : DataW.Trod enc Tryd.prog w 0 spare held 26 v d ps) : ∃ x : Env, Den E σ0 (gTop w) (envV x) v := by
  obtain ⟨fuel, h⟩ := h
  obtain ⟨xs, n, rfl, _, hl, hxl, hf⟩ := DataW.trod_struct Tryd.underlying26 h
  rw [cells26] at hl
  have hv := agg_of_cells hl (by decide)
  generalize v.cells.toList = cs at *
  have h0 := hf 0 _ rfl
  have h1 := hf 1 _ rfl
  have hx2 : xs.length = 2 := by simpa using hxl
  rw [List.getElem?_eq_getElem (by omega)] at h0 h1
  simp only [List.getElem_toArray, List.getElem_cons_zero, List.getElem_cons_succ, cells3, cells24, List.drop_zero] at h0 h1
  obtain ⟨p, hp, ip⟩ := one_int Tryd.underlying3 h0
  obtain ⟨ys, m, rfl, _, _, hyl, hg⟩ := DataW.trod_array Tryd.underlying24 h1
  have hall : ∀ i, i < 16 → ∃ n : Int, cs[1 + i]? = some (.int .i64 n) := by
    intro i hi
    have h2 := hg i hi
    rw [List.getElem?_eq_getElem (by omega)] at h2
    simp only [List.getElem_toArray, List.getElem_cons_zero, List.getElem_cons_succ, cells3, Nat.mul_one] at h2
    obtain ⟨n, hn, _⟩ := one_int Tryd.underlying3 h2
    refine ⟨n, ?_⟩
    have h3 : ((((cs.drop 1).take 16).drop i).take 1)[0]? = some (.int .i64 n) := by rw [hn]; rfl
    rw [List.getElem?_take, if_pos (by decide), List.getElem?_drop, List.getElem?_take, if_pos (by omega), List.getElem?_drop] at h3
    simpa using h3
  have hp0 : cs[0]? = some (.int .i64 p) := by
    have h3 : ((cs.take 1))[0]? = some (.int .i64 p) := by rw [hp]; rfl
    rw [List.getElem?_take, if_pos (by decide)] at h3
    exact h3
  obtain ⟨f, hfam⟩ := Go.Deep.choose_lt (α := Int) hall
  rw [hv]
  refine ⟨⟨p, f 0, f 1, f 2, f 3, f 4, f 5, f 6, f 7, f 8, f 9, f 10, f 11, f 12, f 13, f 14, f 15⟩, .agg (fun j => cs.getD j undef) (by simp [hl]) (fun j hj => ?_) (fun j sv hj => ?_)⟩
  · have hj : j < 17 := hj
    rw [List.getElem?_toArray, List.getD_eq_getElem?_getD, List.getElem?_eq_getElem (by omega)]; rfl
  · match j, hj with
    | 0, hj => cases hj; show Den E σ0 (gTop w) (.int false .i64 p) _; rw [List.getD_eq_getElem?_getD, hp0]; exact .int _ _ _
    | 1, hj => cases hj; show Den E σ0 (gTop w) (.int false .i64 (f 0)) _; rw [List.getD_eq_getElem?_getD, show cs[1]? = _ from hfam 0 (by omega)]; exact .int _ _ _
    | 2, hj => cases hj; show Den E σ0 (gTop w) (.int false .i64 (f 1)) _; rw [List.getD_eq_getElem?_getD, show cs[2]? = _ from hfam 1 (by omega)]; exact .int _ _ _
    | 3, hj => cases hj; show Den E σ0 (gTop w) (.int false .i64 (f 2)) _; rw [List.getD_eq_getElem?_getD, show cs[3]? = _ from hfam 2 (by omega)]; exact .int _ _ _
    | 4, hj => cases hj; show Den E σ0 (gTop w) (.int false .i64 (f 3)) _; rw [List.getD_eq_getElem?_getD, show cs[4]? = _ from hfam 3 (by omega)]; exact .int _ _ _
    | 5, hj => cases hj; show Den E σ0 (gTop w) (.int false .i64 (f 4)) _; rw [List.getD_eq_getElem?_getD, show cs[5]? = _ from hfam 4 (by omega)]; exact .int _ _ _
    | 6, hj => cases hj; show Den E σ0 (gTop w) (.int false .i64 (f 5)) _; rw [List.getD_eq_getElem?_getD, show cs[6]? = _ from hfam 5 (by omega)]; exact .int _ _ _
    | 7, hj => cases hj; show Den E σ0 (gTop w) (.int false .i64 (f 6)) _; rw [List.getD_eq_getElem?_getD, show cs[7]? = _ from hfam 6 (by omega)]; exact .int _ _ _
    | 8, hj => cases hj; show Den E σ0 (gTop w) (.int false .i64 (f 7)) _; rw [List.getD_eq_getElem?_getD, show cs[8]? = _ from hfam 7 (by omega)]; exact .int _ _ _
    | 9, hj => cases hj; show Den E σ0 (gTop w) (.int false .i64 (f 8)) _; rw [List.getD_eq_getElem?_getD, show cs[9]? = _ from hfam 8 (by omega)]; exact .int _ _ _
    | 10, hj => cases hj; show Den E σ0 (gTop w) (.int false .i64 (f 9)) _; rw [List.getD_eq_getElem?_getD, show cs[10]? = _ from hfam 9 (by omega)]; exact .int _ _ _
    | 11, hj => cases hj; show Den E σ0 (gTop w) (.int false .i64 (f 10)) _; rw [List.getD_eq_getElem?_getD, show cs[11]? = _ from hfam 10 (by omega)]; exact .int _ _ _
    | 12, hj => cases hj; show Den E σ0 (gTop w) (.int false .i64 (f 11)) _; rw [List.getD_eq_getElem?_getD, show cs[12]? = _ from hfam 11 (by omega)]; exact .int _ _ _
    | 13, hj => cases hj; show Den E σ0 (gTop w) (.int false .i64 (f 12)) _; rw [List.getD_eq_getElem?_getD, show cs[13]? = _ from hfam 12 (by omega)]; exact .int _ _ _
    | 14, hj => cases hj; show Den E σ0 (gTop w) (.int false .i64 (f 13)) _; rw [List.getD_eq_getElem?_getD, show cs[14]? = _ from hfam 13 (by omega)]; exact .int _ _ _
    | 15, hj => cases hj; show Den E σ0 (gTop w) (.int false .i64 (f 14)) _; rw [List.getD_eq_getElem?_getD, show cs[15]? = _ from hfam 14 (by omega)]; exact .int _ _ _
    | 16, hj => cases hj; show Den E σ0 (gTop w) (.int false .i64 (f 15)) _; rw [List.getD_eq_getElem?_getD, show cs[16]? = _ from hfam 15 (by omega)]; exact .int _ _ _
end
section
variable {H : Type} {enc : TypeId × Value → H} {w : World} {spare : Nat → Bool} {held : Bool}
theorem cells32 : Tryd.prog.cellsOf 32 = 1 := by kernel_rfl
theorem cells34 : Tryd.prog.cellsOf 34 = 5 := by kernel_rfl
theorem len5 {cs : List Value} (h : cs.length = 5) : ∃ a b c d e, cs = [a, b, c, d, e] := by
  match cs, h with
  | [a, b, c, d, e], _ => exact ⟨a, b, c, d, e, rfl⟩
set_option maxRecDepth 100000 in
theorem open_state {v : Value} {d : DataW H} {ps : List MemPlace} (h : DataW.Trod enc Tryd.prog w 0 spare held 34 v d ps) : ∃ s : St, Den E σ0 (gTop w) (stV s) v := by
  obtain ⟨fuel, h⟩ := h
  obtain ⟨xs, n, rfl, _, hl, hxl, hf⟩ := DataW.trod_struct Tryd.underlying34 h
  rw [cells34] at hl
  have hv := agg_of_cells hl (by decide)
  generalize v.cells.toList = cs at *
  obtain ⟨a, b, c, d, e, rfl⟩ := len5 hl
  have hx5 : xs.length = 5 := by simpa using hxl
  have h0 := hf 0 _ rfl
  have h1 := hf 1 _ rfl
  have h2 := hf 2 _ rfl
  have h3 := hf 3 _ rfl
  have h4 := hf 4 _ rfl
  rw [List.getElem?_eq_getElem (by omega)] at h0 h1 h2 h3 h4
  simp only [List.getElem_toArray, List.getElem_cons_zero, List.getElem_cons_succ, cells3, cells32, List.drop_zero, List.drop_succ_cons, List.take_succ_cons, List.take_zero] at h0 h1 h2 h3 h4
  obtain ⟨p, hp, _⟩ := one_int Tryd.underlying3 h0
  obtain ⟨q, hq, _⟩ := one_int Tryd.underlying3 h1
  obtain ⟨r, hr, _⟩ := one_int Tryd.underlying3 h2
  obtain ⟨t, ht, _⟩ := one_int Tryd.underlying3 h3
  obtain ⟨sv, l, hsv, hd⟩ := psl_of_trod (E := E) (th := Th.ints) (fun _ => rfl) (by decide) Tryd.underlying32 cells3 h4 (fun n cs' y hy => num_of_trod n cs' y hy)
  simp only [List.cons.injEq, and_true] at hp hq hr ht hsv
  subst hp hq hr ht hsv
  rw [hv]
  refine ⟨⟨p, q, r, t, l⟩, .agg (fun j => [Value.int .i64 p, .int .i64 q, .int .i64 r, .int .i64 t, e].getD j undef) rfl (fun j hj => ?_) (fun j sv hj => ?_)⟩
  · match j, hj with
    | 0, _ => rfl
    | 1, _ => rfl
    | 2, _ => rfl
    | 3, _ => rfl
    | 4, _ => rfl
  · match j, hj with
    | 0, hj => cases hj; exact .int _ _ _
    | 1, hj => cases hj; exact .int _ _ _
    | 2, hj => cases hj; exact .int _ _ _
    | 3, hj => cases hj; exact .int _ _ _
    | 4, hj => cases hj; exact hd
end
theorem ext_of_stp {g g' : GH} {w w' : World} (h : Stp 0 0 [] σ0 g w σ0 g' w') : Ext w w' := ⟨h.os, h.tape, h.output, h.size, fun k hk => h.heap k hk (by simp)⟩
theorem denL1 {g : GH} {s0 : SV thy} {v0 : Value} (h0 : Den E σ0 g s0 v0) : DenL E σ0 g [s0] [v0] := ⟨rfl, fun j sv v h1 h2 => by
  match j, h1, h2 with
  | 0, h1, h2 => cases h1; cases h2; exact h0⟩
theorem denL_cons {g : GH} {s0 : SV thy} {v0 : Value} {ss : List (SV thy)} {vs : List Value} (h0 : Den E σ0 g s0 v0) (h : DenL E σ0 g ss vs) : DenL E σ0 g (s0 :: ss) (v0 :: vs) := ⟨by simp [h.1], fun j sv v h1 h2 => by
  cases j with
  | zero => cases h1; cases h2; exact h0
  | succ j => exact h.2 j sv v h1 h2⟩
end Go.Proofs.YtcaomfbcchemnaaDoor

/- Layer 1, plain law: the encoding of values. -/
namespace Go.Proofs.YtcaomfbcchemnaaDoor
open Go
set_option linter.unusedVariables false
set_option linter.unusedSimpArgs false
/-- how many bytes a number has -/
def nbN (u : Nat) : Nat := if h : u = 0 then 0 else nbN (u / 256) + 1
termination_by u
theorem nbN_zero : nbN 0 = 0 := by unfold nbN; simp
theorem nbN_pos {u : Nat} (h : u ≠ 0) : nbN u = nbN (u / 256) + 1 := by rw [nbN.eq_1 u, dif_neg h]
theorem nbN_le : ∀ (k u : Nat), u < 256 ^ k → nbN u ≤ k
  | 0, u, h => by
    obtain rfl : u = 0 := by simpa using h
    rw [nbN_zero]; exact Nat.le_refl _
  | k + 1, u, h => by
    by_cases h0 : u = 0
    · subst h0; rw [nbN_zero]; omega
    · rw [nbN_pos h0]
      have := nbN_le k (u / 256) (by rw [Nat.div_lt_iff_lt_mul (by omega)]; rw [Nat.pow_succ] at h; exact h)
      omega
/-- the bytes of a number -/
def intB (n : Int) (k : Nat) (i : Nat) : Int := wr .u8 (Int.fdiv (wr .u64 n) (2 ^ min (Int.toNat (8 * ((k : Int) - 1 - (i : Int)))) 64))
def sizeN (n : Int) : Nat := if n < 0 then nbN (18446744073709551615 - wr .u64 n).toNat else nbN (wr .u64 n).toNat
def tagI (n : Int) : Int := if n < 0 then 31 - (sizeN n : Int) else 32 + (sizeN n : Int)
def encI (n : Int) : List Int := tagI n :: (List.range (sizeN n)).map (intB n (sizeN n))
theorem wru (n : Int) : 0 ≤ wr .u64 n ∧ wr .u64 n < 18446744073709551616 := by simp only [wr, IntKind.wrap_u64]; omega
theorem sizeN_le (n : Int) : sizeN n ≤ 8 := by
  unfold sizeN
  have := wru n
  split
  · exact nbN_le 8 _ (by omega)
  · exact nbN_le 8 _ (by omega)
theorem encI_len (n : Int) : (encI n).length = sizeN n + 1 := by simp [encI]
/-- bytes with 0 escaped -/
def escB : List Int → List Int
  | [] => []
  | b :: r => if b = 0 then b :: 255 :: escB r else b :: escB r
theorem escB_app (a b : List Int) : escB (a ++ b) = escB a ++ escB b := by
  induction a with
  | nil => rfl
  | cons x a ih => simp only [List.cons_append, escB]; split <;> simp [ih]
theorem escB_len (a : List Int) : (escB a).length ≤ 2 * a.length := by
  induction a with
  | nil => simp [escB]
  | cons x a ih => simp only [escB]; split <;> simp <;> omega
mutual
def encV : Val → List Int
  | .mk k n b l => if k = 1 then encI n else if k = 2 then 48 :: escB b ++ [0, 0] else 64 :: encL l ++ [0]
def encL : List Val → List Int
  | [] => []
  | v :: r => encV v ++ encL r
end
theorem encL_app (a b : List Val) : encL (a ++ b) = encL a ++ encL b := by
  induction a with
  | nil => rfl
  | cons x a ih => simp only [List.cons_append, encL, ih, List.append_assoc]
mutual
/-- how deep lists are nested; whether a value is well-formed -/
def shapeV : Val → Int × Bool
  | .mk k n b l => if k = 1 then (0, b.isEmpty && l.isEmpty) else if k = 2 then (0, n == 0 && l.isEmpty) else if k = 3 then (if n ≠ 0 ∨ b ≠ [] then (0, false) else shapeL l 0) else (0, false)
def shapeL : List Val → Int → Int × Bool
  | [], d => (d + 1, true)
  | v :: r, d => if (shapeV v).2 then shapeL r (max d (shapeV v).1) else (0, false)
end
mutual
def Val.ht : Val → Nat
  | .mk _ _ _ l => htL l + 1
def htL : List Val → Nat
  | [] => 0
  | v :: r => max v.ht (htL r)
end
theorem ht_mem {v : Val} : ∀ {l : List Val}, v ∈ l → v.ht ≤ htL l
  | x :: r, h => by
    rw [htL]
    rcases List.mem_cons.1 h with rfl | h
    · omega
    · have := ht_mem h; omega
theorem ht_eq (v : Val) : v.ht = htL v.l + 1 := by cases v; rfl
mutual
/-- a bound of the length -/
def Val.sz : Val → Nat
  | .mk _ _ b l => 2 * b.length + szL l + 16
def szL : List Val → Nat
  | [] => 0
  | v :: r => v.sz + szL r
end
theorem sz_eq (v : Val) : v.sz = 2 * v.b.length + szL v.l + 16 := by cases v; rfl
mutual
theorem encV_len : ∀ (v : Val), (encV v).length ≤ v.sz
  | .mk k n b l => by
    rw [encV, Val.sz]
    have h1 := sizeN_le n
    have h2 := encL_len l
    have h3 := escB_len b
    split
    · rw [encI_len]; omega
    · split
      · simp; omega
      · simp; omega
theorem encL_len : ∀ (l : List Val), (encL l).length ≤ szL l
  | [] => Nat.le_refl _
  | v :: r => by
    rw [encL, szL, List.length_append]
    have := encV_len v
    have := encL_len r
    omega
end
theorem val_eta (v : Val) : Val.mk v.k v.n v.b v.l = v := by cases v; rfl
structure OkV (v : Val) : Prop where
  sz : v.sz ≤ 1000000000000
theorem sz_mem {v : Val} : ∀ {l : List Val}, v ∈ l → v.sz ≤ szL l
  | x :: r, h => by
    rw [szL]
    rcases List.mem_cons.1 h with rfl | h
    · omega
    · have := sz_mem h; omega
mutual
theorem ht_sz : ∀ v : Val, v.ht ≤ v.sz
  | .mk k n b l => by have := htL_sz l; rw [Val.ht, Val.sz]; omega
theorem htL_sz : ∀ l : List Val, htL l ≤ szL l
  | [] => Nat.le_refl _
  | v :: r => by have := ht_sz v; have := htL_sz r; rw [htL, szL]; omega
end
theorem szL_len : ∀ (l : List Val), l.length ≤ szL l
  | [] => Nat.le_refl _
  | x :: r => by
    have := szL_len r
    have h2 := sz_eq x
    rw [szL, List.length_cons]
    omega
theorem OkV.mem {v x : Val} (h : OkV v) (hx : x ∈ v.l) : OkV x := by
  refine ⟨?_⟩
  have := h.sz; have := sz_mem hx; have := sz_eq v; omega
theorem OkV.ln {v : Val} (h : OkV v) : v.l.length ≤ 1000000000000 := by
  have := h.sz; have := szL_len v.l; have := sz_eq v; omega
theorem OkV.bn {v : Val} (h : OkV v) : v.b.length ≤ 1000000000000 := by
  have := h.sz; have := sz_eq v; omega
theorem OkV.en {v : Val} (h : OkV v) : (encV v).length ≤ 1000000000000 := Nat.le_trans (encV_len v) h.sz
theorem shapeV_d : ∀ (n : Nat) (v : Val), v.ht ≤ n → 0 ≤ (shapeV v).1 ∧ (shapeV v).1 ≤ n
  | 0, v, h => by rw [ht_eq] at h; omega
  | n + 1, v, h => by
    have hl : ∀ (l : List Val) (d : Int), htL l ≤ n → 0 ≤ d → d ≤ n → 0 ≤ (shapeL l d).1 ∧ (shapeL l d).1 ≤ n + 1 := by
      intro l
      induction l with
      | nil => intro d _ h1 h2; rw [shapeL]; exact ⟨by show 0 ≤ d + 1; omega, by show d + 1 ≤ n + 1; omega⟩
      | cons x r ih =>
        intro d h0 h1 h2
        rw [htL] at h0
        obtain ⟨k1, k2⟩ := shapeV_d n x (by omega)
        rw [shapeL]
        split
        · exact ih _ (by omega) (by omega) (by omega)
        · exact ⟨Int.le_refl _, by show (0 : Int) ≤ _; omega⟩
    cases v with
    | mk k m b l =>
      rw [ht_eq] at h
      simp only [Val.l] at h
      rw [shapeV]
      split
      · exact ⟨Int.le_refl _, by show (0 : Int) ≤ _; omega⟩
      · split
        · exact ⟨Int.le_refl _, by show (0 : Int) ≤ _; omega⟩
        · split
          · split
            · exact ⟨Int.le_refl _, by show (0 : Int) ≤ _; omega⟩
            · exact hl l 0 (by omega) (Int.le_refl _) (by omega)
          · exact ⟨Int.le_refl _, by show (0 : Int) ≤ _; omega⟩
theorem shape_all (v : Val) : shapeV v = if v.k = 1 then (0, v.b.isEmpty && v.l.isEmpty) else if v.k = 2 then (0, v.n == 0 && v.l.isEmpty) else if v.k = 3 then (if v.n ≠ 0 ∨ v.b ≠ [] then (0, false) else shapeL v.l 0) else (0, false) := by cases v; rw [shapeV]; rfl
theorem encV_all (v : Val) : encV v = if v.k = 1 then encI v.n else if v.k = 2 then 48 :: escB v.b ++ [0, 0] else 64 :: encL v.l ++ [0] := by cases v; rw [encV]; rfl
theorem shapeL_app (a b : List Val) (d : Int) (ha : ∀ v ∈ a, (shapeV v).2 = true) : shapeL (a ++ b) d = shapeL b (a.foldl (fun d v => max d (shapeV v).1) d) := by
  induction a generalizing d with
  | nil => rfl
  | cons x a ih =>
    rw [List.cons_append, shapeL, if_pos (ha x (by simp)), ih _ fun v hv => ha v (by simp [hv])]
    rfl
theorem take_get {α : Type} {l : List α} {k : Nat} {x : α} (h : l[k]? = some x) : l.take (k + 1) = l.take k ++ [x] := by rw [List.take_add_one, h]; rfl
end Go.Proofs.YtcaomfbcchemnaaDoor

/- Layer 1: how many bytes a number has; appending an integer. -/
namespace Go.Proofs.YtcaomfbcchemnaaDoor
open Go
set_option linter.unusedVariables false
set_option linter.unusedSimpArgs false
def Asize : Fr thy → Hp thy → Nat → Ann thy := fun T h i => { X := DX, fr := fun x => [(0, .int false .u64 x.j), (2, .int false .i64 x.k)], bl := fun x => [], src := fun _ => [], md := [], ih := i, M := i + 10, meas := fun x => x.r }
noncomputable def Fsize : Fns thy := addL F0 81 1 Asize E
theorem Fsize_ok : FnsOk E Fsize := addL_ok E_ok F0_ok _ _ _
--@cond size | 81 | Fsize | 400 | (u : Int) | [.int false .u64 u] | (k : Int) | .int false .i64 k
theorem cond_size (u : Int) (k : Int) : callF E Fsize (vc E Fsize 400) 81 [.int false .u64 u] hp0 0 (fun r => ret E (patch hp0 0 r) r.v (.int false .i64 k)) = (
  ∃ (R : DX → Prop), (∃ (x : DX), R x ∧ true = true ∧ (u = DX.j x ∧ (0 : Int) = (↑(DX.k x) : Int) ∧ True) ∧ True) ∧ ∀ (x : DX), R x → (decide (DX.j x > (0 : Int)) = true → ∃ (x' :
  DX), R x' ∧ x'.2 + (1 : Nat) ≤ x.2 ∧ true = true ∧ (Int.fdiv (DX.j x) ((2 : Int) ^ min (Int.toNat (8 : Int)) (IntKind.bits IntKind.u64)) = DX.j x' ∧ wr IntKind.i64 ((↑(DX.k x) :
  Int) + (1 : Int)) = (↑(DX.k x') : Int) ∧ True) ∧ True) ∧ (decide (DX.j x > (0 : Int)) = false → (↑(DX.k x) : Int) = k)
  ) := by kernel_rfl
--@end
theorem shr8 (x : Int) : Int.fdiv x ((2 : Int) ^ min (Int.toNat (8 : Int)) (IntKind.bits IntKind.u64)) = x / 256 := by
  show Int.fdiv x 256 = _
  rw [Int.fdiv_eq_ediv_of_nonneg _ (by omega)]
theorem size_pure (u : Int) (h0 : 0 ≤ u) (h1 : u < 18446744073709551616) : PureC E 81 [.int false .u64 u] (.int false .i64 (nbN u.toNat : Int)) := by
  refine pure_of_call E_ok (callOk_of E_ok Fsize_ok 400) ?_
  rw [cond_size]
  simp only [bif_true, bif_false, bif_nt, bif_tf, bif_ft, beq_iff_eq, bne_iff_ne, beq_eq_false_iff_ne, bne_eq_false_iff_eq, decide_eq_true_eq, decide_eq_false_iff_not, Bool.or_eq_true, Bool.or_eq_false_iff, Bool.not_eq_true', Bool.not_eq_false', Bool.and_eq_true, Bool.and_true, Bool.true_and, Bool.and_eq_false_iff, beq_self_eq_true, mm2_max, mm2_min, ne_eq, and_true, true_and, Bool.true_eq_false, Bool.false_eq_true, false_or, or_false, true_implies, Int.ofNat_eq_natCast, not_true_eq_false, not_false_eq_true, Decidable.not_not, shr8]
  have hb := nbN_le 8 u.toNat (by omega)
  refine ⟨fun x => 0 ≤ x.j ∧ x.k + nbN x.j.toNat = nbN u.toNat ∧ x.r = nbN x.j.toNat, ⟨⟨0, nbN u.toNat, [], [], 0, 0, 0, u⟩, ⟨h0, by simp, rfl⟩, rfl, rfl⟩, ?_⟩
  rintro x ⟨x0, x1, x2⟩
  refine And.intro (fun h => ?_) (fun h => ?_)
  · have e : nbN x.j.toNat = nbN (x.j / 256).toNat + 1 := by
      rw [nbN_pos (by omega)]
      congr 2
      omega
    exact ⟨⟨x.k + 1, nbN (x.j / 256).toNat, [], [], 0, 0, 0, x.j / 256⟩, ⟨by show 0 ≤ x.j / 256; omega, by show x.k + 1 + nbN (x.j / 256).toNat = _; omega, rfl⟩, by show nbN (x.j / 256).toNat + 1 ≤ x.r; omega, rfl, wr64 (by omega) (by omega)⟩
  · have e : x.j.toNat = 0 := by omega
    rw [e, nbN_zero] at x1
    omega
/-- appending: the loop over the bytes -/
def Aint : Fr thy → Hp thy → Nat → Ann thy := fun T h i => { X := DX, fr := fun x => [(0, .sl i 0 x.D.length 1 none), (1, T 1), (6, T 6), (30, T 30), (31, .int false .i64 x.k)], bl := fun x => blkA h (T 0) i Th.bys x.D, src := fun _ => [(i, 0)], md := [bOf (T 0)], ih := i + 1, M := i + 40, meas := fun x => x.r }
noncomputable def Ssize : Sum thy := sumP (.cons (dInt (E := E) .u64) .nil) (fun x => 0 ≤ x.1 ∧ x.1 < 18446744073709551616) fun x => .int false .i64 (nbN x.1.toNat : Int)
noncomputable def Fint : Fns thy := addL (addS F0 81 Ssize) 72 9 Aint E
--@conda int | 72 | Fint | 400 | (n : Int) | [.int false .i64 n] | encI n
theorem cond_int (n : Int) (l : List Int) (len fz : Nat)  : callF E Fint (vc E Fint 400) 72 (.sl 0 0 len (E.w Th.bys) none :: [.int false .i64 n]) (hp1 Th.bys l fz) 1 (appK E Th.bys l len fz (encI n)) = (
  ((0 : Int) ≤ wr IntKind.u64 n ∧ wr IntKind.u64 n + (1 : Int) ≤ (18446744073709551616 : Int)) ∧ (decide (n < (0 : Int)) = true → ((0 : Int) ≤ bitsOp BinOp.xor IntKind.u64 (if
  IntKind.signed IntKind.u64 = true then (-1 : Int) else IntKind.max IntKind.u64) (wr IntKind.u64 n) ∧ bitsOp BinOp.xor IntKind.u64 (if IntKind.signed IntKind.u64 = true then (-1 :
  Int) else IntKind.max IntKind.u64) (wr IntKind.u64 n) + (1 : Int) ≤ (18446744073709551616 : Int)) ∧ (len ≤ List.length l ∧ fz ≤ len ∧ (len + (1 : Nat)) * (1 : Nat) ≤
  (140737488355328 : Nat)) ∧ ∃ (R : DX → Prop), (∃ (x : DX), R x ∧ true = true ∧ (((0 : Nat) = (0 : Nat) ∧ len + (1 : Nat) = List.length (DX.D x) ∧ True) ∧ n = n ∧ (↑(nbN (Int.toNat
  (bitsOp BinOp.xor IntKind.u64 (if IntKind.signed IntKind.u64 = true then (-1 : Int) else IntKind.max IntKind.u64) (wr IntKind.u64 n)))) : Int) = (↑(nbN (Int.toNat (bitsOp BinOp.xor
  IntKind.u64 (if IntKind.signed IntKind.u64 = true then (-1 : Int) else IntKind.max IntKind.u64) (wr IntKind.u64 n)))) : Int) ∧ (↑(nbN (Int.toNat (bitsOp BinOp.xor IntKind.u64 (if
  IntKind.signed IntKind.u64 = true then (-1 : Int) else IntKind.max IntKind.u64) (wr IntKind.u64 n)))) : Int) = (↑(nbN (Int.toNat (bitsOp BinOp.xor IntKind.u64 (if IntKind.signed
  IntKind.u64 = true then (-1 : Int) else IntKind.max IntKind.u64) (wr IntKind.u64 n)))) : Int) ∧ (0 : Int) = (↑(DX.k x) : Int) ∧ True) ∧ (List.take len l ++ [wr IntKind.u8 (wr
  IntKind.i64 ((31 : Int) - (↑(nbN (Int.toNat (bitsOp BinOp.xor IntKind.u64 (if IntKind.signed IntKind.u64 = true then (-1 : Int) else IntKind.max IntKind.u64) (wr IntKind.u64 n))))
  : Int)))] = DX.D x ∧ fz = fz) ∧ True) ∧ ∀ (x : DX), R x → (decide ((↑(DX.k x) : Int) < (↑(nbN (Int.toNat (bitsOp BinOp.xor IntKind.u64 (if IntKind.signed IntKind.u64 = true then
  (-1 : Int) else IntKind.max IntKind.u64) (wr IntKind.u64 n)))) : Int)) = true → (0 : Int) ≤ wr IntKind.i64 ((8 : Int) * wr IntKind.i64 (wr IntKind.i64 ((↑(nbN (Int.toNat (bitsOp
  BinOp.xor IntKind.u64 (if IntKind.signed IntKind.u64 = true then (-1 : Int) else IntKind.max IntKind.u64) (wr IntKind.u64 n)))) : Int) - (1 : Int)) - (↑(DX.k x) : Int))) ∧
  (List.length (DX.D x) ≤ List.length (DX.D x) ∧ fz ≤ List.length (DX.D x) ∧ (List.length (DX.D x) + (1 : Nat)) * (1 : Nat) ≤ (140737488355328 : Nat)) ∧ ∃ (x' : DX), R x' ∧ x'.2 + (1
  : Nat) ≤ x.2 ∧ true = true ∧ (((0 : Nat) = (0 : Nat) ∧ List.length (DX.D x) + (1 : Nat) = List.length (DX.D x') ∧ True) ∧ n = n ∧ (↑(nbN (Int.toNat (bitsOp BinOp.xor IntKind.u64
  (if IntKind.signed IntKind.u64 = true then (-1 : Int) else IntKind.max IntKind.u64) (wr IntKind.u64 n)))) : Int) = (↑(nbN (Int.toNat (bitsOp BinOp.xor IntKind.u64 (if
  IntKind.signed IntKind.u64 = true then (-1 : Int) else IntKind.max IntKind.u64) (wr IntKind.u64 n)))) : Int) ∧ (↑(nbN (Int.toNat (bitsOp BinOp.xor IntKind.u64 (if IntKind.signed
  IntKind.u64 = true then (-1 : Int) else IntKind.max IntKind.u64) (wr IntKind.u64 n)))) : Int) = (↑(nbN (Int.toNat (bitsOp BinOp.xor IntKind.u64 (if IntKind.signed IntKind.u64 =
  true then (-1 : Int) else IntKind.max IntKind.u64) (wr IntKind.u64 n)))) : Int) ∧ wr IntKind.i64 ((↑(DX.k x) : Int) + (1 : Int)) = (↑(DX.k x') : Int) ∧ True) ∧ (List.take
  (List.length (DX.D x)) (DX.D x) ++ [wr IntKind.u8 (Int.fdiv (wr IntKind.u64 n) ((2 : Int) ^ min (Int.toNat (wr IntKind.i64 ((8 : Int) * wr IntKind.i64 (wr IntKind.i64 ((↑(nbN
  (Int.toNat (bitsOp BinOp.xor IntKind.u64 (if IntKind.signed IntKind.u64 = true then (-1 : Int) else IntKind.max IntKind.u64) (wr IntKind.u64 n)))) : Int) - (1 : Int)) - (↑(DX.k x)
  : Int))))) (IntKind.bits IntKind.u64)))] = DX.D x' ∧ fz = fz) ∧ True) ∧ (decide ((↑(DX.k x) : Int) < (↑(nbN (Int.toNat (bitsOp BinOp.xor IntKind.u64 (if IntKind.signed IntKind.u64
  = true then (-1 : Int) else IntKind.max IntKind.u64) (wr IntKind.u64 n)))) : Int)) = false → DX.D x = List.take len l ++ encI n ∧ List.length (DX.D x) = len + List.length (encI n)
  ∧ fz = fz)) ∧ (decide (n < (0 : Int)) = false → (len ≤ List.length l ∧ fz ≤ len ∧ (len + (1 : Nat)) * (1 : Nat) ≤ (140737488355328 : Nat)) ∧ ∃ (R : DX → Prop), (∃ (x : DX), R x ∧
  true = true ∧ (((0 : Nat) = (0 : Nat) ∧ len + (1 : Nat) = List.length (DX.D x) ∧ True) ∧ n = n ∧ (↑(nbN (Int.toNat (wr IntKind.u64 n))) : Int) = (↑(nbN (Int.toNat (wr IntKind.u64
  n))) : Int) ∧ (↑(nbN (Int.toNat (wr IntKind.u64 n))) : Int) = (↑(nbN (Int.toNat (wr IntKind.u64 n))) : Int) ∧ (0 : Int) = (↑(DX.k x) : Int) ∧ True) ∧ (List.take len l ++ [wr
  IntKind.u8 (wr IntKind.i64 ((32 : Int) + (↑(nbN (Int.toNat (wr IntKind.u64 n))) : Int)))] = DX.D x ∧ fz = fz) ∧ True) ∧ ∀ (x : DX), R x → (decide ((↑(DX.k x) : Int) < (↑(nbN
  (Int.toNat (wr IntKind.u64 n))) : Int)) = true → (0 : Int) ≤ wr IntKind.i64 ((8 : Int) * wr IntKind.i64 (wr IntKind.i64 ((↑(nbN (Int.toNat (wr IntKind.u64 n))) : Int) - (1 : Int))
  - (↑(DX.k x) : Int))) ∧ (List.length (DX.D x) ≤ List.length (DX.D x) ∧ fz ≤ List.length (DX.D x) ∧ (List.length (DX.D x) + (1 : Nat)) * (1 : Nat) ≤ (140737488355328 : Nat)) ∧ ∃ (x'
  : DX), R x' ∧ x'.2 + (1 : Nat) ≤ x.2 ∧ true = true ∧ (((0 : Nat) = (0 : Nat) ∧ List.length (DX.D x) + (1 : Nat) = List.length (DX.D x') ∧ True) ∧ n = n ∧ (↑(nbN (Int.toNat (wr
  IntKind.u64 n))) : Int) = (↑(nbN (Int.toNat (wr IntKind.u64 n))) : Int) ∧ (↑(nbN (Int.toNat (wr IntKind.u64 n))) : Int) = (↑(nbN (Int.toNat (wr IntKind.u64 n))) : Int) ∧ wr
  IntKind.i64 ((↑(DX.k x) : Int) + (1 : Int)) = (↑(DX.k x') : Int) ∧ True) ∧ (List.take (List.length (DX.D x)) (DX.D x) ++ [wr IntKind.u8 (Int.fdiv (wr IntKind.u64 n) ((2 : Int) ^
  min (Int.toNat (wr IntKind.i64 ((8 : Int) * wr IntKind.i64 (wr IntKind.i64 ((↑(nbN (Int.toNat (wr IntKind.u64 n))) : Int) - (1 : Int)) - (↑(DX.k x) : Int))))) (IntKind.bits
  IntKind.u64)))] = DX.D x' ∧ fz = fz) ∧ True) ∧ (decide ((↑(DX.k x) : Int) < (↑(nbN (Int.toNat (wr IntKind.u64 n))) : Int)) = false → DX.D x = List.take len l ++ encI n ∧
  List.length (DX.D x) = len + List.length (encI n) ∧ fz = fz))
  ) := by kernel_rfl
--@end
theorem Ssize_ok : SumOk E 81 Ssize := sumP_ok E_ok (good_of (f := 81) rfl) fun x h => size_pure x.1 h.1 h.2
theorem Fint_ok : FnsOk E Fint := addL_ok E_ok (addS_ok F0_ok Ssize_ok) _ _ _
theorem notU {u : Int} (h1 : 0 ≤ u) (h2 : u < 18446744073709551616) : bitsOp BinOp.xor IntKind.u64 (if IntKind.signed IntKind.u64 = true then (-1 : Int) else IntKind.max IntKind.u64) u = 18446744073709551615 - u := by
  show IntKind.wrap .u64 (BitVec.ofInt 64 18446744073709551615 ^^^ BitVec.ofInt 64 u).toNat = _
  have e2 : BitVec.ofInt 64 18446744073709551615 = BitVec.allOnes 64 := by decide
  rw [e2, BitVec.allOnes_xor, BitVec.toNat_not, BitVec.toNat_ofInt, IntKind.wrap_u64]
  omega
theorem int_app (n : Int) : AppC E 72 Th.bys 1 [.int false .i64 n] (encI n) := by
  refine appC_of_call E_ok (callOk_of E_ok Fint_ok 400) rfl fun (l : List Int) len fz hlen hfz hbig => ?_
  rw [cond_int]
  replace hbig : (len + (encI n).length) * 1 ≤ 140737488355328 := hbig
  replace hlen : len ≤ l.length := hlen
  rw [encI_len] at hbig
  have hs := sizeN_le n
  have hw := wru n
  refine ⟨⟨by omega, by omega⟩, ?_⟩
  simp only [bif_true, bif_false, bif_nt, bif_tf, bif_ft, beq_iff_eq, bne_iff_ne, beq_eq_false_iff_ne, bne_eq_false_iff_eq, decide_eq_true_eq, decide_eq_false_iff_not, Bool.or_eq_true, Bool.or_eq_false_iff, Bool.not_eq_true', Bool.not_eq_false', Bool.and_eq_true, Bool.and_true, Bool.true_and, Bool.and_eq_false_iff, beq_self_eq_true, mm2_max, mm2_min, ne_eq, and_true, true_and, Bool.true_eq_false, Bool.false_eq_true, false_or, or_false, true_implies, Int.ofNat_eq_natCast, not_true_eq_false, not_false_eq_true, Decidable.not_not]
  refine And.intro (fun h => ?_) (fun h => ?_)
  · rw [notU hw.1 hw.2]
    refine ⟨by omega, ?_⟩
    have hN : nbN (18446744073709551615 - wr .u64 n).toNat = sizeN n := by unfold sizeN; rw [if_pos h]
    have ht : wr .u8 (wr .i64 (31 - (sizeN n : Int))) = tagI n := by unfold tagI; rw [if_pos h, wr64 (by omega) (by omega)]; simp only [wr, IntKind.wrap_u8]; omega
    rw [hN, ht]
    generalize hk : sizeN n = K at *
    refine ⟨⟨by omega, by omega, by omega⟩, fun x => ∃ q, q ≤ K ∧ x.k = q ∧ x.D = l.take len ++ (tagI n :: (List.range q).map (intB n K)) ∧ x.r = K - q, ⟨⟨0, K, l.take len ++ [tagI n], [], 0, 0, 0, 0⟩, ⟨0, by omega, rfl, rfl, rfl⟩, ⟨by simp; omega, rfl⟩, rfl⟩, ?_⟩
    rintro x ⟨q, hq, hxk, hxD, hxr⟩
    have hxl : x.D.length = len + 1 + q := by rw [hxD]; simp; omega
    refine And.intro (fun h => ?_) (fun h => ?_)
    · have hK : q < K := by omega
      have e3 : wr .i64 (8 * wr .i64 (wr .i64 ((K : Int) - 1) - (x.k : Int))) = 8 * ((K : Int) - 1 - (q : Int)) := by rw [wr64 (n := (K : Int) - 1) (by omega) (by omega), hxk, wr64 (n := (K : Int) - 1 - q) (by omega) (by omega), wr64 (by omega) (by omega)]
      simp only [e3]
      refine ⟨by omega, ⟨Nat.le_refl _, by omega, by omega⟩, ⟨x.k + 1, K - (q + 1), x.D ++ [intB n K q], [], 0, 0, 0, 0⟩, ⟨q + 1, by omega, by show x.k + 1 = q + 1; omega, ?_, rfl⟩, by show K - (q + 1) + 1 ≤ x.r; omega, ⟨by simp, wr64 (by omega) (by omega)⟩, by rw [List.take_length]; simp [intB, IntKind.bits]⟩
      show x.D ++ _ = _
      rw [List.range_succ, List.map_append, hxD]; simp
    · obtain rfl : q = K := by omega
      have e4 : encI n = tagI n :: (List.range q).map (intB n q) := by unfold encI; rw [hk]
      exact ⟨by rw [hxD, e4], by rw [hxl, encI_len, hk]; omega⟩
  · have hN : nbN (wr .u64 n).toNat = sizeN n := by unfold sizeN; rw [if_neg (by omega)]
    have ht : wr .u8 (wr .i64 (32 + (sizeN n : Int))) = tagI n := by unfold tagI; rw [if_neg (by omega), wr64 (by omega) (by omega)]; simp only [wr, IntKind.wrap_u8]; omega
    simp only [hN, ht]
    generalize hk : sizeN n = K at *
    refine ⟨⟨by omega, by omega, by omega⟩, fun x => ∃ q, q ≤ K ∧ x.k = q ∧ x.D = l.take len ++ (tagI n :: (List.range q).map (intB n K)) ∧ x.r = K - q, ⟨⟨0, K, l.take len ++ [tagI n], [], 0, 0, 0, 0⟩, ⟨0, by omega, rfl, rfl, rfl⟩, ⟨by simp; omega, rfl⟩, rfl⟩, ?_⟩
    rintro x ⟨q, hq, hxk, hxD, hxr⟩
    have hxl : x.D.length = len + 1 + q := by rw [hxD]; simp; omega
    refine And.intro (fun h => ?_) (fun h => ?_)
    · have hK : q < K := by omega
      have e3 : wr .i64 (8 * wr .i64 (wr .i64 ((K : Int) - 1) - (x.k : Int))) = 8 * ((K : Int) - 1 - (q : Int)) := by rw [wr64 (n := (K : Int) - 1) (by omega) (by omega), hxk, wr64 (n := (K : Int) - 1 - q) (by omega) (by omega), wr64 (by omega) (by omega)]
      simp only [e3]
      refine ⟨by omega, ⟨Nat.le_refl _, by omega, by omega⟩, ⟨x.k + 1, K - (q + 1), x.D ++ [intB n K q], [], 0, 0, 0, 0⟩, ⟨q + 1, by omega, by show x.k + 1 = q + 1; omega, ?_, rfl⟩, by show K - (q + 1) + 1 ≤ x.r; omega, ⟨by simp, wr64 (by omega) (by omega)⟩, by rw [List.take_length]; simp [intB, IntKind.bits]⟩
      show x.D ++ _ = _
      rw [List.range_succ, List.map_append, hxD]; simp
    · obtain rfl : q = K := by omega
      have e4 : encI n = tagI n :: (List.range q).map (intB n q) := by unfold encI; rw [hk]
      exact ⟨by rw [hxD, e4], by rw [hxl, encI_len, hk]; omega⟩
end Go.Proofs.YtcaomfbcchemnaaDoor

/- Layer 1: the shape of values, appending values. -/
namespace Go.Proofs.YtcaomfbcchemnaaDoor
open Go
set_option linter.unusedVariables false
set_option linter.unusedSimpArgs false
noncomputable def dVal : DcL E (Val × Unit) := .cons (dR .vals) .nil
noncomputable def Sshape (m : Nat) : Sum thy := sumP dVal (fun x => x.1.ht ≤ m ∧ OkV x.1) fun x => .tup [.int false .i64 (shapeV x.1).1, .bool false (shapeV x.1).2]
def Ashape : Fr thy → Hp thy → Nat → Ann thy := fun T h i => { X := DX, fr := fun x => [(2, .int false .i64 x.j), (45, T 45), (46, T 46), (47, .int false .i64 x.k)], bl := fun x => [], src := fun _ => [], md := [], ih := i, M := i + 30, meas := fun x => x.r }
noncomputable def Fshape (m : Nat) : Fns thy := addL (addS F0 56 (Sshape m)) 56 10 Ashape E
--@cond shape | 56 | F0>(Fshape m) | 400 | (m : Nat) (v : Val) | [.agg (encF false .vals v)] | (d : Int) (b : Bool) | .tup [.int false .i64 d, .bool false b]
theorem cond_shape (m : Nat) (v : Val) (d : Int) (b : Bool) : callF E F0 (vc E (Fshape m) 400) 56 [.agg (encF false .vals v)] hp0 0 (fun r => ret E (patch hp0 0 r) r.v (.tup [.int false .i64 d, .bool false b])) = (
  ((Val.k v == (1 : Int)) = true → (((↑(List.length (Val.b v)) : Int) == (0 : Int)) = true → (((↑(List.length (Val.l v)) : Int) == (0 : Int)) = true → (0 : Int) = d ∧ true = b ∧
  True) ∧ (((↑(List.length (Val.l v)) : Int) == (0 : Int)) = false → (0 : Int) = d ∧ false = b ∧ True)) ∧ (((↑(List.length (Val.b v)) : Int) == (0 : Int)) = false → (0 : Int) = d ∧
  false = b ∧ True)) ∧ ((Val.k v == (1 : Int)) = false → ((Val.k v == (2 : Int)) = true → ((Val.n v == (0 : Int)) = true → (((↑(List.length (Val.l v)) : Int) == (0 : Int)) = true →
  (0 : Int) = d ∧ true = b ∧ True) ∧ (((↑(List.length (Val.l v)) : Int) == (0 : Int)) = false → (0 : Int) = d ∧ false = b ∧ True)) ∧ ((Val.n v == (0 : Int)) = false → (0 : Int) = d ∧
  false = b ∧ True)) ∧ ((Val.k v == (2 : Int)) = false → ((Val.k v == (3 : Int)) = true → ∃ (Q : Bool → Prop), (((Val.n v != (0 : Int)) = true → Q true) ∧ ((Val.n v != (0 : Int)) =
  false → (((↑(List.length (Val.b v)) : Int) != (0 : Int)) = true → Q true) ∧ (((↑(List.length (Val.b v)) : Int) != (0 : Int)) = false → Q false))) ∧ (Q true → (0 : Int) = d ∧ false
  = b ∧ True) ∧ (Q false → ∃ (R : DX → Prop), (∃ (x : DX), R x ∧ true = true ∧ ((0 : Int) = DX.j x ∧ (Val.l v = Val.l v ∧ (false = true → false = true)) ∧ (↑(List.length (Val.l v)) :
  Int) = (↑(List.length (Val.l v)) : Int) ∧ (0 : Int) = (↑(DX.k x) : Int) ∧ True) ∧ True) ∧ ∀ (x : DX), R x → (decide ((↑(DX.k x) : Int) < (↑(List.length (Val.l v)) : Int)) = true →
  (0 : Int) ≤ (↑(DX.k x) : Int) ∧ (↑(DX.k x) : Int) + (1 : Int) ≤ (↑(List.length (Val.l v)) : Int) ∧ ∀ (x_1 : Val), (Val.l v)[Int.toNat (↑(DX.k x) : Int)]? = some x_1 → (Val.ht
  (Val.mk (Val.k x_1) (Val.n x_1) (Val.b x_1) (Val.l x_1)) ≤ m ∧ OkV (Val.mk (Val.k x_1) (Val.n x_1) (Val.b x_1) (Val.l x_1))) ∧ ((!Prod.snd (shapeV (Val.mk (Val.k x_1) (Val.n x_1)
  (Val.b x_1) (Val.l x_1)))) = true → (0 : Int) = d ∧ false = b ∧ True) ∧ ((!Prod.snd (shapeV (Val.mk (Val.k x_1) (Val.n x_1) (Val.b x_1) (Val.l x_1)))) = false → ∃ (x' : DX), R x' ∧
  x'.2 + (1 : Nat) ≤ x.2 ∧ true = true ∧ (mm2 true (DX.j x) (Prod.fst (shapeV (Val.mk (Val.k x_1) (Val.n x_1) (Val.b x_1) (Val.l x_1)))) = DX.j x' ∧ (Val.l v = Val.l v ∧ (false =
  true → false = true)) ∧ (↑(List.length (Val.l v)) : Int) = (↑(List.length (Val.l v)) : Int) ∧ wr IntKind.i64 ((↑(DX.k x) : Int) + (1 : Int)) = (↑(DX.k x') : Int) ∧ True) ∧ True)) ∧
  (decide ((↑(DX.k x) : Int) < (↑(List.length (Val.l v)) : Int)) = false → wr IntKind.i64 (DX.j x + (1 : Int)) = d ∧ true = b ∧ True))) ∧ ((Val.k v == (3 : Int)) = false → (0 : Int)
  = d ∧ false = b ∧ True)))
  ) := by kernel_rfl
--@end
theorem len0 {α : Type} {l : List α} : ((l.length : Int) = 0) ↔ l = [] := by
  cases l
  · simp
  · simp; omega
theorem shape_aux : ∀ (m : Nat) (v : Val), v.ht ≤ m → OkV v → PureC E 56 [.agg (encF false .vals v)] (.tup [.int false .i64 (shapeV v).1, .bool false (shapeV v).2]) := by
  intro m
  induction m with
  | zero => intro v h; rw [ht_eq] at h; omega
  | succ m ih =>
    intro v hm hv
    have hF : FnsOk E (Fshape m) := addL_ok E_ok (addS_ok F0_ok (sumP_ok E_ok (good_of (f := 56) rfl) fun x h => ih x.1 h.1 h.2)) _ _ _
    refine pure_of_call E_ok (callF_ok E_ok F0_ok fun f N c => (vc_ok E_ok hF 400 f N c).1) ?_
    rw [cond_shape]
    simp only [bif_true, bif_false, bif_nt, bif_tf, bif_ft, beq_iff_eq, bne_iff_ne, beq_eq_false_iff_ne, bne_eq_false_iff_eq, decide_eq_true_eq, decide_eq_false_iff_not, Bool.or_eq_true, Bool.or_eq_false_iff, Bool.not_eq_true', Bool.not_eq_false', Bool.and_eq_true, Bool.and_true, Bool.true_and, Bool.and_eq_false_iff, beq_self_eq_true, mm2_max, mm2_min, ne_eq, and_true, true_and, Bool.true_eq_false, Bool.false_eq_true, false_or, or_false, true_implies, imp_self, Int.ofNat_eq_natCast, not_true_eq_false, not_false_eq_true, Decidable.not_not, val_eta, len0]
    have hl := hv.ln
    rw [shape_all]
    refine And.intro (fun h1 => ?_) (fun h1 => And.intro (fun h2 => ?_) (fun h2 => And.intro (fun h3 => ?_) (fun h3 => ?_)))
    · rw [if_pos h1]
      refine And.intro (fun h2 => And.intro (fun h3 => ?_) (fun h3 => ?_)) (fun h2 => ?_) <;> simp [h2, *]
    · rw [if_neg h1, if_pos h2]
      refine And.intro (fun h3 => And.intro (fun h4 => ?_) (fun h4 => ?_)) (fun h3 => ?_) <;> simp [*]
    · rw [if_neg h1, if_neg h2, if_pos h3]
      refine ⟨fun b => b = true ↔ (v.n ≠ 0 ∨ v.b ≠ []), ⟨fun h => by simp [h], fun h => ⟨fun h' => by simp [h'], fun h' => by simp [h, h']⟩⟩, fun hq => ?_, fun hq => ?_⟩
      · rw [if_pos (hq.1 rfl)]; exact ⟨rfl, rfl⟩
      · rw [if_neg (fun h => by have := hq.2 h; simp at this)]
        have hbd : ∀ q, q ≤ v.l.length → 0 ≤ (v.l.take q).foldl (fun d v => max d (shapeV v).1) 0 ∧ (v.l.take q).foldl (fun d v => max d (shapeV v).1) 0 ≤ htL v.l := by
          intro q
          induction q with
          | zero => intro _; simp
          | succ q ihq =>
            intro hq
            have hx := List.getElem?_eq_getElem (l := v.l) (i := q) (by omega)
            rw [take_get hx, List.foldl_append]
            have h1 := ihq (by omega)
            have h2 := shapeV_d _ v.l[q] (Nat.le_refl _)
            have h3 := ht_mem (List.getElem_mem (l := v.l) (n := q) (by omega))
            simp only [List.foldl_cons, List.foldl_nil]
            omega
        refine ⟨fun x => ∃ q, q ≤ v.l.length ∧ x.k = q ∧ (∀ y ∈ v.l.take q, (shapeV y).2 = true) ∧ x.j = (v.l.take q).foldl (fun d v => max d (shapeV v).1) 0 ∧ x.r = v.l.length - q, ⟨⟨0, v.l.length, [], [], 0, 0, 0, 0⟩, ⟨0, by omega, rfl, by simp, rfl, rfl⟩, rfl, rfl⟩, ?_⟩
        rintro x ⟨q, hq1, hq2, hq3, hq4, hq5⟩
        refine And.intro (fun h => ⟨by omega, by omega, fun y hy => ?_⟩) (fun h => ?_)
        · have hy : v.l[q]? = some y := by rw [← hq2]; exact hy
          have hmem : y ∈ v.l := List.mem_of_getElem? hy
          have hht : y.ht ≤ m := by have := ht_mem hmem; rw [ht_eq] at hm; omega
          refine ⟨⟨hht, hv.mem hmem⟩, fun h2 => ?_, fun h2 => ?_⟩
          · rw [← List.take_append_drop q v.l, shapeL_app _ _ _ hq3]
            have hd : v.l.drop q = y :: v.l.drop (q + 1) := by rw [List.drop_eq_getElem_cons (by omega)]; congr 1; have := List.getElem?_eq_getElem (l := v.l) (i := q) (by omega); rw [hy] at this; exact (Option.some.inj this).symm
            rw [hd, shapeL, h2]
            exact ⟨rfl, rfl⟩
          · refine ⟨⟨q + 1, v.l.length - (q + 1), [], [], 0, 0, 0, max x.j (shapeV y).1⟩, ⟨q + 1, by omega, rfl, ?_, ?_, rfl⟩, by show v.l.length - (q + 1) + 1 ≤ x.r; omega, rfl, ?_⟩
            · intro z hz
              rw [take_get hy, List.mem_append] at hz
              rcases hz with hz | hz
              · exact hq3 z hz
              · rw [List.mem_singleton.1 hz]; exact h2
            · show max x.j (shapeV y).1 = _
              rw [take_get hy, List.foldl_append, ← hq4]; rfl
            · show wr .i64 ((x.k : Int) + 1) = ((q + 1 : Nat) : Int)
              rw [hq2, wr64 (by omega) (by omega)]; omega
        · obtain rfl : q = v.l.length := by omega
          rw [List.take_length] at hq3 hq4
          have hb := hbd v.l.length (Nat.le_refl _)
          rw [List.take_length, ← hq4] at hb
          have e := shapeL_app v.l [] 0 hq3
          rw [List.append_nil] at e
          rw [e, shapeL, ← hq4]
          have hm1 : htL v.l ≤ 1000000000000 := by
            have := hv.sz
            have := ht_sz v
            rw [ht_eq] at this
            omega
          rw [wr64 (by omega) (by omega)]
          exact ⟨rfl, rfl⟩
    · rw [if_neg h1, if_neg h2, if_neg h3]
      exact ⟨rfl, rfl⟩
noncomputable def Sint : Sum thy := sumA E Th.bys 1 (.cons (dInt (E := E) .i64) .nil) (fun _ => True) fun x => encI x.1
noncomputable def Sval (m : Nat) : Sum thy := sumA E Th.bys 1 dVal (fun x => x.1.ht ≤ m ∧ OkV x.1) fun x => encV x.1
/-- the loop over the bytes -/
def Abyt : Fr thy → Hp thy → Nat → Ann thy := fun T h i => { X := DX, fr := fun x => [(0, .sl i 0 x.D.length 1 none), (23, T 23), (24, T 24), (25, .int false .i64 x.k)], bl := fun x => blkA h (T 0) i Th.bys x.D, src := fun _ => [(i, 0)], md := [bOf (T 0)], ih := i + 1, M := i + 40, meas := fun x => x.r }
/-- the loop over the elements -/
def Alis : Fr thy → Hp thy → Nat → Ann thy := fun T h i => { X := DX, fr := fun x => [(0, .sl i 0 x.D.length 1 none), (46, T 46), (47, T 47), (48, .int false .i64 x.k)], bl := fun x => blkA h (T 0) i Th.bys x.D, src := fun _ => [(i, 0)], md := [bOf (T 0)], ih := i + 1, M := i + 40, meas := fun x => x.r }
noncomputable def Fval (m : Nat) : Fns thy := addL (addL (addS (addS F0 72 Sint) 57 (Sval m)) 57 7 Abyt E) 57 16 Alis E
--@conda val | 57 | F0>(Fval m) | 400 | (m : Nat) (v : Val) | [.agg (encF false .vals v)] | encV v
theorem cond_val (m : Nat) (v : Val) (l : List Int) (len fz : Nat)  : callF E F0 (vc E (Fval m) 400) 57 (.sl 0 0 len (E.w Th.bys) none :: [.agg (encF false .vals v)]) (hp1 Th.bys l fz) 1 (appK E Th.bys l len fz (encV v)) = (
  ((Val.k v == (1 : Int)) = true → True ∧ (len ≤ List.length l ∧ fz ≤ len ∧ (len + List.length (encI (Val.n v))) * (1 : Nat) ≤ (140737488355328 : Nat)) ∧ List.take len l ++ encI
  (Val.n v) = List.take len l ++ encV v ∧ len + List.length (encI (Val.n v)) = len + List.length (encV v) ∧ fz = fz) ∧ ((Val.k v == (1 : Int)) = false → ((Val.k v == (2 : Int)) =
  true → (len ≤ List.length l ∧ fz ≤ len ∧ (len + (1 : Nat)) * (1 : Nat) ≤ (140737488355328 : Nat)) ∧ ∃ (R : DX → Prop), (∃ (x : DX), R x ∧ true = true ∧ (((0 : Nat) = (0 : Nat) ∧
  len + (1 : Nat) = List.length (DX.D x) ∧ True) ∧ (Val.b v = Val.b v ∧ (false = true → false = true)) ∧ (↑(List.length (Val.b v)) : Int) = (↑(List.length (Val.b v)) : Int) ∧ (0 :
  Int) = (↑(DX.k x) : Int) ∧ True) ∧ (List.take len l ++ [(48 : Int)] = DX.D x ∧ fz = fz) ∧ True) ∧ ∀ (x : DX), R x → (decide ((↑(DX.k x) : Int) < (↑(List.length (Val.b v)) : Int)) =
  true → (0 : Int) ≤ (↑(DX.k x) : Int) ∧ (↑(DX.k x) : Int) + (1 : Int) ≤ (↑(List.length (Val.b v)) : Int) ∧ ∀ (x_1 : Int), (Val.b v)[Int.toNat (↑(DX.k x) : Int)]? = some x_1 →
  (List.length (DX.D x) ≤ List.length (DX.D x) ∧ fz ≤ List.length (DX.D x) ∧ (List.length (DX.D x) + (1 : Nat)) * (1 : Nat) ≤ (140737488355328 : Nat)) ∧ ((x_1 == (0 : Int)) = true →
  (List.length (DX.D x) + (1 : Nat) ≤ List.length (List.take (List.length (DX.D x)) (DX.D x) ++ [x_1]) ∧ fz ≤ List.length (DX.D x) + (1 : Nat) ∧ (List.length (DX.D x) + (1 : Nat) +
  (1 : Nat)) * (1 : Nat) ≤ (140737488355328 : Nat)) ∧ ∃ (x' : DX), R x' ∧ x'.2 + (1 : Nat) ≤ x.2 ∧ true = true ∧ (((0 : Nat) = (0 : Nat) ∧ List.length (DX.D x) + (1 : Nat) + (1 :
  Nat) = List.length (DX.D x') ∧ True) ∧ (Val.b v = Val.b v ∧ (false = true → false = true)) ∧ (↑(List.length (Val.b v)) : Int) = (↑(List.length (Val.b v)) : Int) ∧ wr IntKind.i64
  ((↑(DX.k x) : Int) + (1 : Int)) = (↑(DX.k x') : Int) ∧ True) ∧ (List.take (List.length (DX.D x) + (1 : Nat)) (List.take (List.length (DX.D x)) (DX.D x) ++ [x_1]) ++ [(255 : Int)] =
  DX.D x' ∧ fz = fz) ∧ True) ∧ ((x_1 == (0 : Int)) = false → ∃ (x' : DX), R x' ∧ x'.2 + (1 : Nat) ≤ x.2 ∧ true = true ∧ (((0 : Nat) = (0 : Nat) ∧ List.length (DX.D x) + (1 : Nat) =
  List.length (DX.D x') ∧ True) ∧ (Val.b v = Val.b v ∧ (false = true → false = true)) ∧ (↑(List.length (Val.b v)) : Int) = (↑(List.length (Val.b v)) : Int) ∧ wr IntKind.i64 ((↑(DX.k
  x) : Int) + (1 : Int)) = (↑(DX.k x') : Int) ∧ True) ∧ (List.take (List.length (DX.D x)) (DX.D x) ++ [x_1] = DX.D x' ∧ fz = fz) ∧ True)) ∧ (decide ((↑(DX.k x) : Int) <
  (↑(List.length (Val.b v)) : Int)) = false → (List.length (DX.D x) ≤ List.length (DX.D x) ∧ fz ≤ List.length (DX.D x) ∧ (List.length (DX.D x) + (2 : Nat)) * (1 : Nat) ≤
  (140737488355328 : Nat)) ∧ List.take (List.length (DX.D x)) (DX.D x) ++ [(0 : Int), (0 : Int)] = List.take len l ++ encV v ∧ List.length (DX.D x) + (2 : Nat) = len + List.length
  (encV v) ∧ fz = fz)) ∧ ((Val.k v == (2 : Int)) = false → (len ≤ List.length l ∧ fz ≤ len ∧ (len + (1 : Nat)) * (1 : Nat) ≤ (140737488355328 : Nat)) ∧ ∃ (R : DX → Prop), (∃ (x :
  DX), R x ∧ true = true ∧ (((0 : Nat) = (0 : Nat) ∧ len + (1 : Nat) = List.length (DX.D x) ∧ True) ∧ (Val.l v = Val.l v ∧ (false = true → false = true)) ∧ (↑(List.length (Val.l v))
  : Int) = (↑(List.length (Val.l v)) : Int) ∧ (0 : Int) = (↑(DX.k x) : Int) ∧ True) ∧ (List.take len l ++ [(64 : Int)] = DX.D x ∧ fz = fz) ∧ True) ∧ ∀ (x : DX), R x → (decide
  ((↑(DX.k x) : Int) < (↑(List.length (Val.l v)) : Int)) = true → (0 : Int) ≤ (↑(DX.k x) : Int) ∧ (↑(DX.k x) : Int) + (1 : Int) ≤ (↑(List.length (Val.l v)) : Int) ∧ ∀ (x_1 : Val),
  (Val.l v)[Int.toNat (↑(DX.k x) : Int)]? = some x_1 → (Val.ht (Val.mk (Val.k x_1) (Val.n x_1) (Val.b x_1) (Val.l x_1)) ≤ m ∧ OkV (Val.mk (Val.k x_1) (Val.n x_1) (Val.b x_1) (Val.l
  x_1))) ∧ (List.length (DX.D x) ≤ List.length (DX.D x) ∧ fz ≤ List.length (DX.D x) ∧ (List.length (DX.D x) + List.length (encV (Val.mk (Val.k x_1) (Val.n x_1) (Val.b x_1) (Val.l
  x_1)))) * (1 : Nat) ≤ (140737488355328 : Nat)) ∧ ∃ (x' : DX), R x' ∧ x'.2 + (1 : Nat) ≤ x.2 ∧ true = true ∧ (((0 : Nat) = (0 : Nat) ∧ List.length (DX.D x) + List.length (encV
  (Val.mk (Val.k x_1) (Val.n x_1) (Val.b x_1) (Val.l x_1))) = List.length (DX.D x') ∧ True) ∧ (Val.l v = Val.l v ∧ (false = true → false = true)) ∧ (↑(List.length (Val.l v)) : Int) =
  (↑(List.length (Val.l v)) : Int) ∧ wr IntKind.i64 ((↑(DX.k x) : Int) + (1 : Int)) = (↑(DX.k x') : Int) ∧ True) ∧ (List.take (List.length (DX.D x)) (DX.D x) ++ encV (Val.mk (Val.k
  x_1) (Val.n x_1) (Val.b x_1) (Val.l x_1)) = DX.D x' ∧ fz = fz) ∧ True) ∧ (decide ((↑(DX.k x) : Int) < (↑(List.length (Val.l v)) : Int)) = false → (List.length (DX.D x) ≤
  List.length (DX.D x) ∧ fz ≤ List.length (DX.D x) ∧ (List.length (DX.D x) + (1 : Nat)) * (1 : Nat) ≤ (140737488355328 : Nat)) ∧ List.take (List.length (DX.D x)) (DX.D x) ++ [(0 :
  Int)] = List.take len l ++ encV v ∧ List.length (DX.D x) + (1 : Nat) = len + List.length (encV v) ∧ fz = fz)))
  ) := by kernel_rfl
--@end
theorem shape_pure (v : Val) (hv : OkV v) : PureC E 56 [.agg (encF false .vals v)] (.tup [.int false .i64 (shapeV v).1, .bool false (shapeV v).2]) := shape_aux _ v (Nat.le_refl _) hv
theorem Sint_ok : SumOk E 72 Sint := sumA_ok E_ok (good_of (f := 72) rfl) fun x _ => int_app x.1
theorem val_aux : ∀ (m : Nat) (v : Val), v.ht ≤ m → OkV v → AppC E 57 Th.bys 1 [.agg (encF false .vals v)] (encV v) := by
  intro m
  induction m with
  | zero => intro v h; rw [ht_eq] at h; omega
  | succ m ih =>
    intro v hm hv
    have hF : FnsOk E (Fval m) := addL_ok E_ok (addL_ok E_ok (addS_ok (addS_ok F0_ok Sint_ok) (sumA_ok E_ok (good_of (f := 57) rfl) fun x h => ih x.1 h.1 h.2)) _ _ _) _ _ _
    refine appC_of_call E_ok (callF_ok E_ok F0_ok fun f N c => (vc_ok E_ok hF 400 f N c).1) rfl fun (l : List Int) len fz hlen hfz hbig => ?_
    rw [cond_val]
    replace hbig : (len + (encV v).length) * 1 ≤ 140737488355328 := hbig
    replace hlen : len ≤ l.length := hlen
    simp only [bif_true, bif_false, bif_nt, bif_tf, bif_ft, beq_iff_eq, bne_iff_ne, beq_eq_false_iff_ne, bne_eq_false_iff_eq, decide_eq_true_eq, decide_eq_false_iff_not, Bool.or_eq_true, Bool.or_eq_false_iff, Bool.not_eq_true', Bool.not_eq_false', Bool.and_eq_true, Bool.and_true, Bool.true_and, Bool.and_eq_false_iff, beq_self_eq_true, mm2_max, mm2_min, ne_eq, and_true, true_and, Bool.true_eq_false, Bool.false_eq_true, false_or, or_false, true_implies, imp_self, Int.ofNat_eq_natCast, not_true_eq_false, not_false_eq_true, Decidable.not_not, val_eta]
    have hl := hv.ln
    have hb := hv.bn
    rw [encV_all] at hbig
    rw [encV_all]
    refine And.intro (fun h1 => ?_) (fun h1 => And.intro (fun h2 => ?_) (fun h2 => ?_))
    · rw [if_pos h1] at hbig
      rw [if_pos h1]
      exact ⟨⟨hlen, hfz, hbig⟩, rfl, rfl⟩
    · rw [if_neg h1, if_pos h2] at hbig
      rw [if_neg h1, if_pos h2]
      simp only [List.length_append, List.length_cons, List.length_nil] at hbig
      refine ⟨⟨hlen, hfz, by omega⟩, fun x => ∃ q, q ≤ v.b.length ∧ x.k = q ∧ x.D = l.take len ++ (48 :: escB (v.b.take q)) ∧ x.r = v.b.length - q, ⟨⟨0, v.b.length, l.take len ++ [48], [], 0, 0, 0, 0⟩, ⟨0, by omega, rfl, rfl, rfl⟩, ⟨by simp; omega, rfl⟩, rfl⟩, ?_⟩
      rintro x ⟨q, hq1, hq2, hq3, hq4⟩
      have hesc : (escB v.b).length = (escB (v.b.take q)).length + (escB (v.b.drop q)).length := by rw [← List.length_append, ← escB_app, List.take_append_drop]
      have hxl : x.D.length = len + 1 + (escB (v.b.take q)).length := by rw [hq3]; simp; omega
      refine And.intro (fun h => ⟨by omega, by omega, fun y hy => ?_⟩) (fun h => ?_)
      · have hy : v.b[q]? = some y := by rw [← hq2]; exact hy
        have hd : v.b.drop q = y :: v.b.drop (q + 1) := by rw [List.drop_eq_getElem_cons (by omega)]; congr 1; have := List.getElem?_eq_getElem (l := v.b) (i := q) (by omega); rw [hy] at this; exact (Option.some.inj this).symm
        rw [hd] at hesc
        have hk1 : wr .i64 ((x.k : Int) + 1) = ((q + 1 : Nat) : Int) := by rw [hq2, wr64 (by omega) (by omega)]; omega
        refine ⟨⟨Nat.le_refl _, by omega, ?_⟩, fun h0 => ?_, fun h0 => ?_⟩
        · rw [escB] at hesc; split at hesc <;> simp at hesc <;> omega
        · rw [escB, if_pos h0] at hesc
          simp only [List.length_cons] at hesc
          refine ⟨⟨by simp, by omega, by omega⟩, ⟨q + 1, v.b.length - (q + 1), x.D ++ [y, 255], [], 0, 0, 0, 0⟩, ⟨q + 1, by omega, rfl, ?_, rfl⟩, by show v.b.length - (q + 1) + 1 ≤ x.r; omega, ⟨by simp, hk1⟩, by rw [List.take_length, List.take_of_length_le (by simp)]; simp⟩
          show x.D ++ [y, 255] = _
          rw [take_get hy, escB_app, hq3]
          simp [escB, h0]
        · refine ⟨⟨q + 1, v.b.length - (q + 1), x.D ++ [y], [], 0, 0, 0, 0⟩, ⟨q + 1, by omega, rfl, ?_, rfl⟩, by show v.b.length - (q + 1) + 1 ≤ x.r; omega, ⟨by simp, hk1⟩, by rw [List.take_length]⟩
          show x.D ++ [y] = _
          rw [take_get hy, escB_app, hq3]
          simp [escB, h0]
      · obtain rfl : q = v.b.length := by omega
        rw [List.take_length] at hq3 hxl
        refine ⟨⟨Nat.le_refl _, by omega, by omega⟩, ?_, ?_⟩
        · rw [List.take_length, hq3]; simp
        · rw [hxl]; simp; omega
    · rw [if_neg h1, if_neg h2] at hbig
      rw [if_neg h1, if_neg h2]
      simp only [List.length_append, List.length_cons, List.length_nil] at hbig
      refine ⟨⟨hlen, hfz, by omega⟩, fun x => ∃ q, q ≤ v.l.length ∧ x.k = q ∧ x.D = l.take len ++ (64 :: encL (v.l.take q)) ∧ x.r = v.l.length - q, ⟨⟨0, v.l.length, l.take len ++ [64], [], 0, 0, 0, 0⟩, ⟨0, by omega, rfl, rfl, rfl⟩, ⟨by simp; omega, rfl⟩, rfl⟩, ?_⟩
      rintro x ⟨q, hq1, hq2, hq3, hq4⟩
      have hesc : (encL v.l).length = (encL (v.l.take q)).length + (encL (v.l.drop q)).length := by rw [← List.length_append, ← encL_app, List.take_append_drop]
      have hxl : x.D.length = len + 1 + (encL (v.l.take q)).length := by rw [hq3]; simp; omega
      refine And.intro (fun h => ⟨by omega, by omega, fun y hy => ?_⟩) (fun h => ?_)
      · have hy : v.l[q]? = some y := by rw [← hq2]; exact hy
        have hmem : y ∈ v.l := List.mem_of_getElem? hy
        have hd : v.l.drop q = y :: v.l.drop (q + 1) := by rw [List.drop_eq_getElem_cons (by omega)]; congr 1; have := List.getElem?_eq_getElem (l := v.l) (i := q) (by omega); rw [hy] at this; exact (Option.some.inj this).symm
        rw [hd, encL, List.length_append] at hesc
        have hk1 : wr .i64 ((x.k : Int) + 1) = ((q + 1 : Nat) : Int) := by rw [hq2, wr64 (by omega) (by omega)]; omega
        have hht : y.ht ≤ m := by have := ht_mem hmem; rw [ht_eq] at hm; omega
        refine ⟨⟨hht, hv.mem hmem⟩, ⟨Nat.le_refl _, by omega, by omega⟩, ⟨q + 1, v.l.length - (q + 1), x.D ++ encV y, [], 0, 0, 0, 0⟩, ⟨q + 1, by omega, rfl, ?_, rfl⟩, by show v.l.length - (q + 1) + 1 ≤ x.r; omega, ⟨by simp, hk1⟩, by rw [List.take_length]⟩
        show x.D ++ encV y = _
        rw [take_get hy, encL_app, hq3]
        simp [encL]
      · obtain rfl : q = v.l.length := by omega
        rw [List.take_length] at hq3 hxl
        refine ⟨⟨Nat.le_refl _, by omega, by omega⟩, ?_, ?_⟩
        · rw [List.take_length, hq3]; simp
        · rw [hxl]; simp; omega
theorem val_app (v : Val) (hv : OkV v) : AppC E 57 Th.bys 1 [.agg (encF false .vals v)] (encV v) := val_aux _ v (Nat.le_refl _) hv
end Go.Proofs.YtcaomfbcchemnaaDoor

/- Layer 1: appending to an empty list; Encode. -/
namespace Go.Proofs.YtcaomfbcchemnaaDoor
open Go
set_option linter.unusedVariables false
set_option linter.unusedSimpArgs false
--@cond int0 | 72 | F0>Fint | 400 | (n : Int) | [.val (.slice none 0 0), .int false .i64 n] | (b : List Int) | .psl Th.bys b false
theorem cond_int0 (n : Int) (b : List Int) : callF E F0 (vc E Fint 400) 72 [.val (.slice none 0 0), .int false .i64 n] hp0 0 (fun r => ret E (patch hp0 0 r) r.v (.psl Th.bys b false)) = (
  ((0 : Int) ≤ wr IntKind.u64 n ∧ wr IntKind.u64 n + (1 : Int) ≤ (18446744073709551616 : Int)) ∧ (decide (n < (0 : Int)) = true → ((0 : Int) ≤ bitsOp BinOp.xor IntKind.u64 (if
  IntKind.signed IntKind.u64 = true then (-1 : Int) else IntKind.max IntKind.u64) (wr IntKind.u64 n) ∧ bitsOp BinOp.xor IntKind.u64 (if IntKind.signed IntKind.u64 = true then (-1 :
  Int) else IntKind.max IntKind.u64) (wr IntKind.u64 n) + (1 : Int) ≤ (18446744073709551616 : Int)) ∧ ∃ (R : DX → Prop), (∃ (x : DX), R x ∧ true = true ∧ (((0 : Nat) = (0 : Nat) ∧ (1
  : Nat) = List.length (DX.D x) ∧ True) ∧ n = n ∧ (↑(nbN (Int.toNat (bitsOp BinOp.xor IntKind.u64 (if IntKind.signed IntKind.u64 = true then (-1 : Int) else IntKind.max IntKind.u64)
  (wr IntKind.u64 n)))) : Int) = (↑(nbN (Int.toNat (bitsOp BinOp.xor IntKind.u64 (if IntKind.signed IntKind.u64 = true then (-1 : Int) else IntKind.max IntKind.u64) (wr IntKind.u64
  n)))) : Int) ∧ (↑(nbN (Int.toNat (bitsOp BinOp.xor IntKind.u64 (if IntKind.signed IntKind.u64 = true then (-1 : Int) else IntKind.max IntKind.u64) (wr IntKind.u64 n)))) : Int) =
  (↑(nbN (Int.toNat (bitsOp BinOp.xor IntKind.u64 (if IntKind.signed IntKind.u64 = true then (-1 : Int) else IntKind.max IntKind.u64) (wr IntKind.u64 n)))) : Int) ∧ (0 : Int) =
  (↑(DX.k x) : Int) ∧ True) ∧ ([wr IntKind.u8 (wr IntKind.i64 ((31 : Int) - (↑(nbN (Int.toNat (bitsOp BinOp.xor IntKind.u64 (if IntKind.signed IntKind.u64 = true then (-1 : Int) else
  IntKind.max IntKind.u64) (wr IntKind.u64 n)))) : Int)))] = DX.D x ∧ (0 : Nat) = (0 : Nat)) ∧ True) ∧ ∀ (x : DX), R x → (decide ((↑(DX.k x) : Int) < (↑(nbN (Int.toNat (bitsOp
  BinOp.xor IntKind.u64 (if IntKind.signed IntKind.u64 = true then (-1 : Int) else IntKind.max IntKind.u64) (wr IntKind.u64 n)))) : Int)) = true → (0 : Int) ≤ wr IntKind.i64 ((8 :
  Int) * wr IntKind.i64 (wr IntKind.i64 ((↑(nbN (Int.toNat (bitsOp BinOp.xor IntKind.u64 (if IntKind.signed IntKind.u64 = true then (-1 : Int) else IntKind.max IntKind.u64) (wr
  IntKind.u64 n)))) : Int) - (1 : Int)) - (↑(DX.k x) : Int))) ∧ (List.length (DX.D x) ≤ List.length (DX.D x) ∧ (0 : Nat) ≤ List.length (DX.D x) ∧ (List.length (DX.D x) + (1 : Nat)) *
  (1 : Nat) ≤ (140737488355328 : Nat)) ∧ ∃ (x' : DX), R x' ∧ x'.2 + (1 : Nat) ≤ x.2 ∧ true = true ∧ (((0 : Nat) = (0 : Nat) ∧ List.length (DX.D x) + (1 : Nat) = List.length (DX.D x')
  ∧ True) ∧ n = n ∧ (↑(nbN (Int.toNat (bitsOp BinOp.xor IntKind.u64 (if IntKind.signed IntKind.u64 = true then (-1 : Int) else IntKind.max IntKind.u64) (wr IntKind.u64 n)))) : Int) =
  (↑(nbN (Int.toNat (bitsOp BinOp.xor IntKind.u64 (if IntKind.signed IntKind.u64 = true then (-1 : Int) else IntKind.max IntKind.u64) (wr IntKind.u64 n)))) : Int) ∧ (↑(nbN (Int.toNat
  (bitsOp BinOp.xor IntKind.u64 (if IntKind.signed IntKind.u64 = true then (-1 : Int) else IntKind.max IntKind.u64) (wr IntKind.u64 n)))) : Int) = (↑(nbN (Int.toNat (bitsOp BinOp.xor
  IntKind.u64 (if IntKind.signed IntKind.u64 = true then (-1 : Int) else IntKind.max IntKind.u64) (wr IntKind.u64 n)))) : Int) ∧ wr IntKind.i64 ((↑(DX.k x) : Int) + (1 : Int)) =
  (↑(DX.k x') : Int) ∧ True) ∧ (List.take (List.length (DX.D x)) (DX.D x) ++ [wr IntKind.u8 (Int.fdiv (wr IntKind.u64 n) ((2 : Int) ^ min (Int.toNat (wr IntKind.i64 ((8 : Int) * wr
  IntKind.i64 (wr IntKind.i64 ((↑(nbN (Int.toNat (bitsOp BinOp.xor IntKind.u64 (if IntKind.signed IntKind.u64 = true then (-1 : Int) else IntKind.max IntKind.u64) (wr IntKind.u64
  n)))) : Int) - (1 : Int)) - (↑(DX.k x) : Int))))) (IntKind.bits IntKind.u64)))] = DX.D x' ∧ (0 : Nat) = (0 : Nat)) ∧ True) ∧ (decide ((↑(DX.k x) : Int) < (↑(nbN (Int.toNat (bitsOp
  BinOp.xor IntKind.u64 (if IntKind.signed IntKind.u64 = true then (-1 : Int) else IntKind.max IntKind.u64) (wr IntKind.u64 n)))) : Int)) = false → (0 : Nat) + List.length (DX.D x) ≤
  List.length (DX.D x) ∧ List.take (List.length (DX.D x)) (DX.D x) = b)) ∧ (decide (n < (0 : Int)) = false → ∃ (R : DX → Prop), (∃ (x : DX), R x ∧ true = true ∧ (((0 : Nat) = (0 :
  Nat) ∧ (1 : Nat) = List.length (DX.D x) ∧ True) ∧ n = n ∧ (↑(nbN (Int.toNat (wr IntKind.u64 n))) : Int) = (↑(nbN (Int.toNat (wr IntKind.u64 n))) : Int) ∧ (↑(nbN (Int.toNat (wr
  IntKind.u64 n))) : Int) = (↑(nbN (Int.toNat (wr IntKind.u64 n))) : Int) ∧ (0 : Int) = (↑(DX.k x) : Int) ∧ True) ∧ ([wr IntKind.u8 (wr IntKind.i64 ((32 : Int) + (↑(nbN (Int.toNat
  (wr IntKind.u64 n))) : Int)))] = DX.D x ∧ (0 : Nat) = (0 : Nat)) ∧ True) ∧ ∀ (x : DX), R x → (decide ((↑(DX.k x) : Int) < (↑(nbN (Int.toNat (wr IntKind.u64 n))) : Int)) = true → (0
  : Int) ≤ wr IntKind.i64 ((8 : Int) * wr IntKind.i64 (wr IntKind.i64 ((↑(nbN (Int.toNat (wr IntKind.u64 n))) : Int) - (1 : Int)) - (↑(DX.k x) : Int))) ∧ (List.length (DX.D x) ≤
  List.length (DX.D x) ∧ (0 : Nat) ≤ List.length (DX.D x) ∧ (List.length (DX.D x) + (1 : Nat)) * (1 : Nat) ≤ (140737488355328 : Nat)) ∧ ∃ (x' : DX), R x' ∧ x'.2 + (1 : Nat) ≤ x.2 ∧
  true = true ∧ (((0 : Nat) = (0 : Nat) ∧ List.length (DX.D x) + (1 : Nat) = List.length (DX.D x') ∧ True) ∧ n = n ∧ (↑(nbN (Int.toNat (wr IntKind.u64 n))) : Int) = (↑(nbN (Int.toNat
  (wr IntKind.u64 n))) : Int) ∧ (↑(nbN (Int.toNat (wr IntKind.u64 n))) : Int) = (↑(nbN (Int.toNat (wr IntKind.u64 n))) : Int) ∧ wr IntKind.i64 ((↑(DX.k x) : Int) + (1 : Int)) =
  (↑(DX.k x') : Int) ∧ True) ∧ (List.take (List.length (DX.D x)) (DX.D x) ++ [wr IntKind.u8 (Int.fdiv (wr IntKind.u64 n) ((2 : Int) ^ min (Int.toNat (wr IntKind.i64 ((8 : Int) * wr
  IntKind.i64 (wr IntKind.i64 ((↑(nbN (Int.toNat (wr IntKind.u64 n))) : Int) - (1 : Int)) - (↑(DX.k x) : Int))))) (IntKind.bits IntKind.u64)))] = DX.D x' ∧ (0 : Nat) = (0 : Nat)) ∧
  True) ∧ (decide ((↑(DX.k x) : Int) < (↑(nbN (Int.toNat (wr IntKind.u64 n))) : Int)) = false → (0 : Nat) + List.length (DX.D x) ≤ List.length (DX.D x) ∧ List.take (List.length (DX.D
  x)) (DX.D x) = b))
  ) := by kernel_rfl
--@end
theorem int_nil (n : Int) : PureC E 72 [.val (.slice none 0 0), .int false .i64 n] (.psl Th.bys (encI n) false) := by
  refine pure_of_call E_ok (callF_ok E_ok F0_ok fun f N c => (vc_ok E_ok Fint_ok 400 f N c).1) ?_
  rw [cond_int0]
  have hs := sizeN_le n
  have hw := wru n
  refine ⟨⟨by omega, by omega⟩, ?_⟩
  simp only [bif_true, bif_false, bif_nt, bif_tf, bif_ft, beq_iff_eq, bne_iff_ne, beq_eq_false_iff_ne, bne_eq_false_iff_eq, decide_eq_true_eq, decide_eq_false_iff_not, Bool.or_eq_true, Bool.or_eq_false_iff, Bool.not_eq_true', Bool.not_eq_false', Bool.and_eq_true, Bool.and_true, Bool.true_and, Bool.and_eq_false_iff, beq_self_eq_true, mm2_max, mm2_min, ne_eq, and_true, true_and, Bool.true_eq_false, Bool.false_eq_true, false_or, or_false, true_implies, Int.ofNat_eq_natCast, not_true_eq_false, not_false_eq_true, Decidable.not_not]
  refine And.intro (fun h => ?_) (fun h => ?_)
  · rw [notU hw.1 hw.2]
    refine ⟨by omega, ?_⟩
    have hN : nbN (18446744073709551615 - wr .u64 n).toNat = sizeN n := by unfold sizeN; rw [if_pos h]
    have ht : wr .u8 (wr .i64 (31 - (sizeN n : Int))) = tagI n := by unfold tagI; rw [if_pos h, wr64 (by omega) (by omega)]; simp only [wr, IntKind.wrap_u8]; omega
    rw [hN, ht]
    generalize hk : sizeN n = K at *
    refine ⟨fun x => ∃ q, q ≤ K ∧ x.k = q ∧ x.D = (tagI n :: (List.range q).map (intB n K)) ∧ x.r = K - q, ⟨⟨0, K, [tagI n], [], 0, 0, 0, 0⟩, ⟨0, by omega, rfl, rfl, rfl⟩, ⟨rfl, rfl⟩, rfl⟩, ?_⟩
    rintro x ⟨q, hq, hxk, hxD, hxr⟩
    have hxl : x.D.length = 1 + q := by rw [hxD]; simp; omega
    refine And.intro (fun h => ?_) (fun h => ?_)
    · have hK : q < K := by omega
      have e3 : wr .i64 (8 * wr .i64 (wr .i64 ((K : Int) - 1) - (x.k : Int))) = 8 * ((K : Int) - 1 - (q : Int)) := by rw [wr64 (n := (K : Int) - 1) (by omega) (by omega), hxk, wr64 (n := (K : Int) - 1 - q) (by omega) (by omega), wr64 (by omega) (by omega)]
      simp only [e3]
      refine ⟨by omega, ⟨Nat.le_refl _, by omega, by omega⟩, ⟨x.k + 1, K - (q + 1), x.D ++ [intB n K q], [], 0, 0, 0, 0⟩, ⟨q + 1, by omega, by show x.k + 1 = q + 1; omega, ?_, rfl⟩, by show K - (q + 1) + 1 ≤ x.r; omega, ⟨by simp, wr64 (by omega) (by omega)⟩, by rw [List.take_length]; simp [intB, IntKind.bits]⟩
      show x.D ++ _ = _
      rw [List.range_succ, List.map_append, hxD]; simp
    · obtain rfl : q = K := by omega
      have e4 : encI n = tagI n :: (List.range q).map (intB n q) := by unfold encI; rw [hk]
      exact ⟨by omega, by rw [List.take_length, hxD, e4]⟩
  · have hN : nbN (wr .u64 n).toNat = sizeN n := by unfold sizeN; rw [if_neg (by omega)]
    have ht : wr .u8 (wr .i64 (32 + (sizeN n : Int))) = tagI n := by unfold tagI; rw [if_neg (by omega), wr64 (by omega) (by omega)]; simp only [wr, IntKind.wrap_u8]; omega
    simp only [hN, ht]
    generalize hk : sizeN n = K at *
    refine ⟨fun x => ∃ q, q ≤ K ∧ x.k = q ∧ x.D = (tagI n :: (List.range q).map (intB n K)) ∧ x.r = K - q, ⟨⟨0, K, [tagI n], [], 0, 0, 0, 0⟩, ⟨0, by omega, rfl, rfl, rfl⟩, ⟨rfl, rfl⟩, rfl⟩, ?_⟩
    rintro x ⟨q, hq, hxk, hxD, hxr⟩
    have hxl : x.D.length = 1 + q := by rw [hxD]; simp; omega
    refine And.intro (fun h => ?_) (fun h => ?_)
    · have hK : q < K := by omega
      have e3 : wr .i64 (8 * wr .i64 (wr .i64 ((K : Int) - 1) - (x.k : Int))) = 8 * ((K : Int) - 1 - (q : Int)) := by rw [wr64 (n := (K : Int) - 1) (by omega) (by omega), hxk, wr64 (n := (K : Int) - 1 - q) (by omega) (by omega), wr64 (by omega) (by omega)]
      simp only [e3]
      refine ⟨by omega, ⟨Nat.le_refl _, by omega, by omega⟩, ⟨x.k + 1, K - (q + 1), x.D ++ [intB n K q], [], 0, 0, 0, 0⟩, ⟨q + 1, by omega, by show x.k + 1 = q + 1; omega, ?_, rfl⟩, by show K - (q + 1) + 1 ≤ x.r; omega, ⟨by simp, wr64 (by omega) (by omega)⟩, by rw [List.take_length]; simp [intB, IntKind.bits]⟩
      show x.D ++ _ = _
      rw [List.range_succ, List.map_append, hxD]; simp
    · obtain rfl : q = K := by omega
      have e4 : encI n = tagI n :: (List.range q).map (intB n q) := by unfold encI; rw [hk]
      exact ⟨by omega, by rw [List.take_length, hxD, e4]⟩
noncomputable def SvalT : Sum thy := sumA E Th.bys 1 dVal (fun x => OkV x.1) fun x => encV x.1
theorem SvalT_ok : SumOk E 57 SvalT := sumA_ok E_ok (good_of (f := 57) rfl) fun x h => val_app x.1 h
noncomputable def SintN : Sum thy := sumN (.cons (dInt (E := E) .i64) .nil) (fun _ => True) (fun x => .psl Th.bys (encI x.1) false) Sint
theorem SintN_ok : SumOk E 72 SintN := sumN_ok E_ok Sint_ok fun x _ => int_nil x.1
noncomputable def Fval0 : Fns thy := addL (addL (addS (addS F0 72 SintN) 57 SvalT) 57 7 Abyt E) 57 16 Alis E
theorem Fval0_ok : FnsOk E Fval0 := addL_ok E_ok (addL_ok E_ok (addS_ok (addS_ok F0_ok SintN_ok) SvalT_ok) _ _ _) _ _ _
--@cond val0 | 57 | F0>Fval0 | 400 | (v : Val) | [.val (.slice none 0 0), .agg (encF false .vals v)] | (b : List Int) | .psl Th.bys b false
theorem cond_val0 (v : Val) (b : List Int) : callF E F0 (vc E Fval0 400) 57 [.val (.slice none 0 0), .agg (encF false .vals v)] hp0 0 (fun r => ret E (patch hp0 0 r) r.v (.psl Th.bys b false)) = (
  ((Val.k v == (1 : Int)) = true → True ∧ encI (Val.n v) = b ∧ (false = true → false = true)) ∧ ((Val.k v == (1 : Int)) = false → ((Val.k v == (2 : Int)) = true → ∃ (R : DX → Prop),
  (∃ (x : DX), R x ∧ true = true ∧ (((0 : Nat) = (0 : Nat) ∧ (1 : Nat) = List.length (DX.D x) ∧ True) ∧ (Val.b v = Val.b v ∧ (false = true → false = true)) ∧ (↑(List.length (Val.b
  v)) : Int) = (↑(List.length (Val.b v)) : Int) ∧ (0 : Int) = (↑(DX.k x) : Int) ∧ True) ∧ ([(48 : Int)] = DX.D x ∧ (0 : Nat) = (0 : Nat)) ∧ True) ∧ ∀ (x : DX), R x → (decide ((↑(DX.k
  x) : Int) < (↑(List.length (Val.b v)) : Int)) = true → (0 : Int) ≤ (↑(DX.k x) : Int) ∧ (↑(DX.k x) : Int) + (1 : Int) ≤ (↑(List.length (Val.b v)) : Int) ∧ ∀ (x_1 : Int), (Val.b
  v)[Int.toNat (↑(DX.k x) : Int)]? = some x_1 → (List.length (DX.D x) ≤ List.length (DX.D x) ∧ (0 : Nat) ≤ List.length (DX.D x) ∧ (List.length (DX.D x) + (1 : Nat)) * (1 : Nat) ≤
  (140737488355328 : Nat)) ∧ ((x_1 == (0 : Int)) = true → (List.length (DX.D x) + (1 : Nat) ≤ List.length (List.take (List.length (DX.D x)) (DX.D x) ++ [x_1]) ∧ (0 : Nat) ≤
  List.length (DX.D x) + (1 : Nat) ∧ (List.length (DX.D x) + (1 : Nat) + (1 : Nat)) * (1 : Nat) ≤ (140737488355328 : Nat)) ∧ ∃ (x' : DX), R x' ∧ x'.2 + (1 : Nat) ≤ x.2 ∧ true = true
  ∧ (((0 : Nat) = (0 : Nat) ∧ List.length (DX.D x) + (1 : Nat) + (1 : Nat) = List.length (DX.D x') ∧ True) ∧ (Val.b v = Val.b v ∧ (false = true → false = true)) ∧ (↑(List.length
  (Val.b v)) : Int) = (↑(List.length (Val.b v)) : Int) ∧ wr IntKind.i64 ((↑(DX.k x) : Int) + (1 : Int)) = (↑(DX.k x') : Int) ∧ True) ∧ (List.take (List.length (DX.D x) + (1 : Nat))
  (List.take (List.length (DX.D x)) (DX.D x) ++ [x_1]) ++ [(255 : Int)] = DX.D x' ∧ (0 : Nat) = (0 : Nat)) ∧ True) ∧ ((x_1 == (0 : Int)) = false → ∃ (x' : DX), R x' ∧ x'.2 + (1 :
  Nat) ≤ x.2 ∧ true = true ∧ (((0 : Nat) = (0 : Nat) ∧ List.length (DX.D x) + (1 : Nat) = List.length (DX.D x') ∧ True) ∧ (Val.b v = Val.b v ∧ (false = true → false = true)) ∧
  (↑(List.length (Val.b v)) : Int) = (↑(List.length (Val.b v)) : Int) ∧ wr IntKind.i64 ((↑(DX.k x) : Int) + (1 : Int)) = (↑(DX.k x') : Int) ∧ True) ∧ (List.take (List.length (DX.D
  x)) (DX.D x) ++ [x_1] = DX.D x' ∧ (0 : Nat) = (0 : Nat)) ∧ True)) ∧ (decide ((↑(DX.k x) : Int) < (↑(List.length (Val.b v)) : Int)) = false → (List.length (DX.D x) ≤ List.length
  (DX.D x) ∧ (0 : Nat) ≤ List.length (DX.D x) ∧ (List.length (DX.D x) + (2 : Nat)) * (1 : Nat) ≤ (140737488355328 : Nat)) ∧ (0 : Nat) + (List.length (DX.D x) + (2 : Nat)) ≤
  List.length (List.take (List.length (DX.D x)) (DX.D x) ++ [(0 : Int), (0 : Int)]) ∧ List.take (List.length (DX.D x) + (2 : Nat)) (List.take (List.length (DX.D x)) (DX.D x) ++ [(0 :
  Int), (0 : Int)]) = b)) ∧ ((Val.k v == (2 : Int)) = false → ∃ (R : DX → Prop), (∃ (x : DX), R x ∧ true = true ∧ (((0 : Nat) = (0 : Nat) ∧ (1 : Nat) = List.length (DX.D x) ∧ True) ∧
  (Val.l v = Val.l v ∧ (false = true → false = true)) ∧ (↑(List.length (Val.l v)) : Int) = (↑(List.length (Val.l v)) : Int) ∧ (0 : Int) = (↑(DX.k x) : Int) ∧ True) ∧ ([(64 : Int)] =
  DX.D x ∧ (0 : Nat) = (0 : Nat)) ∧ True) ∧ ∀ (x : DX), R x → (decide ((↑(DX.k x) : Int) < (↑(List.length (Val.l v)) : Int)) = true → (0 : Int) ≤ (↑(DX.k x) : Int) ∧ (↑(DX.k x) :
  Int) + (1 : Int) ≤ (↑(List.length (Val.l v)) : Int) ∧ ∀ (x_1 : Val), (Val.l v)[Int.toNat (↑(DX.k x) : Int)]? = some x_1 → OkV (Val.mk (Val.k x_1) (Val.n x_1) (Val.b x_1) (Val.l
  x_1)) ∧ (List.length (DX.D x) ≤ List.length (DX.D x) ∧ (0 : Nat) ≤ List.length (DX.D x) ∧ (List.length (DX.D x) + List.length (encV (Val.mk (Val.k x_1) (Val.n x_1) (Val.b x_1)
  (Val.l x_1)))) * (1 : Nat) ≤ (140737488355328 : Nat)) ∧ ∃ (x' : DX), R x' ∧ x'.2 + (1 : Nat) ≤ x.2 ∧ true = true ∧ (((0 : Nat) = (0 : Nat) ∧ List.length (DX.D x) + List.length
  (encV (Val.mk (Val.k x_1) (Val.n x_1) (Val.b x_1) (Val.l x_1))) = List.length (DX.D x') ∧ True) ∧ (Val.l v = Val.l v ∧ (false = true → false = true)) ∧ (↑(List.length (Val.l v)) :
  Int) = (↑(List.length (Val.l v)) : Int) ∧ wr IntKind.i64 ((↑(DX.k x) : Int) + (1 : Int)) = (↑(DX.k x') : Int) ∧ True) ∧ (List.take (List.length (DX.D x)) (DX.D x) ++ encV (Val.mk
  (Val.k x_1) (Val.n x_1) (Val.b x_1) (Val.l x_1)) = DX.D x' ∧ (0 : Nat) = (0 : Nat)) ∧ True) ∧ (decide ((↑(DX.k x) : Int) < (↑(List.length (Val.l v)) : Int)) = false → (List.length
  (DX.D x) ≤ List.length (DX.D x) ∧ (0 : Nat) ≤ List.length (DX.D x) ∧ (List.length (DX.D x) + (1 : Nat)) * (1 : Nat) ≤ (140737488355328 : Nat)) ∧ (0 : Nat) + (List.length (DX.D x) +
  (1 : Nat)) ≤ List.length (List.take (List.length (DX.D x)) (DX.D x) ++ [(0 : Int)]) ∧ List.take (List.length (DX.D x) + (1 : Nat)) (List.take (List.length (DX.D x)) (DX.D x) ++ [(0
  : Int)]) = b)))
  ) := by kernel_rfl
--@end
theorem val_nil (v : Val) (hv : OkV v) : PureC E 57 [.val (.slice none 0 0), .agg (encF false .vals v)] (.psl Th.bys (encV v) false) := by
  refine pure_of_call E_ok (callF_ok E_ok F0_ok fun f N c => (vc_ok E_ok Fval0_ok 400 f N c).1) ?_
  rw [cond_val0]
  have hbig := hv.en
  simp only [bif_true, bif_false, bif_nt, bif_tf, bif_ft, beq_iff_eq, bne_iff_ne, beq_eq_false_iff_ne, bne_eq_false_iff_eq, decide_eq_true_eq, decide_eq_false_iff_not, Bool.or_eq_true, Bool.or_eq_false_iff, Bool.not_eq_true', Bool.not_eq_false', Bool.and_eq_true, Bool.and_true, Bool.true_and, Bool.and_eq_false_iff, beq_self_eq_true, mm2_max, mm2_min, ne_eq, and_true, true_and, Bool.true_eq_false, Bool.false_eq_true, false_or, or_false, true_implies, imp_self, Int.ofNat_eq_natCast, not_true_eq_false, not_false_eq_true, Decidable.not_not, val_eta]
  have hl := hv.ln
  have hb := hv.bn
  rw [encV_all] at hbig
  rw [encV_all]
  refine And.intro (fun h1 => ?_) (fun h1 => And.intro (fun h2 => ?_) (fun h2 => ?_))
  · rw [if_pos h1] at hbig
    rw [if_pos h1]
  · rw [if_neg h1, if_pos h2] at hbig
    rw [if_neg h1, if_pos h2]
    simp only [List.length_append, List.length_cons, List.length_nil] at hbig
    refine ⟨fun x => ∃ q, q ≤ v.b.length ∧ x.k = q ∧ x.D = (48 :: escB (v.b.take q)) ∧ x.r = v.b.length - q, ⟨⟨0, v.b.length, [48], [], 0, 0, 0, 0⟩, ⟨0, by omega, rfl, rfl, rfl⟩, ⟨rfl, rfl⟩, rfl⟩, ?_⟩
    rintro x ⟨q, hq1, hq2, hq3, hq4⟩
    have hesc : (escB v.b).length = (escB (v.b.take q)).length + (escB (v.b.drop q)).length := by rw [← List.length_append, ← escB_app, List.take_append_drop]
    have hxl : x.D.length = 1 + (escB (v.b.take q)).length := by rw [hq3]; simp; omega
    refine And.intro (fun h => ⟨by omega, by omega, fun y hy => ?_⟩) (fun h => ?_)
    · have hy : v.b[q]? = some y := by rw [← hq2]; exact hy
      have hd : v.b.drop q = y :: v.b.drop (q + 1) := by rw [List.drop_eq_getElem_cons (by omega)]; congr 1; have := List.getElem?_eq_getElem (l := v.b) (i := q) (by omega); rw [hy] at this; exact (Option.some.inj this).symm
      rw [hd] at hesc
      have hk1 : wr .i64 ((x.k : Int) + 1) = ((q + 1 : Nat) : Int) := by rw [hq2, wr64 (by omega) (by omega)]; omega
      refine ⟨⟨Nat.le_refl _, by omega, ?_⟩, fun h0 => ?_, fun h0 => ?_⟩
      · rw [escB] at hesc; split at hesc <;> simp at hesc <;> omega
      · rw [escB, if_pos h0] at hesc
        simp only [List.length_cons] at hesc
        refine ⟨⟨by simp, by omega, by omega⟩, ⟨q + 1, v.b.length - (q + 1), x.D ++ [y, 255], [], 0, 0, 0, 0⟩, ⟨q + 1, by omega, rfl, ?_, rfl⟩, by show v.b.length - (q + 1) + 1 ≤ x.r; omega, ⟨by simp, hk1⟩, by rw [List.take_length, List.take_of_length_le (by simp)]; simp⟩
        show x.D ++ [y, 255] = _
        rw [take_get hy, escB_app, hq3]
        simp [escB, h0]
      · refine ⟨⟨q + 1, v.b.length - (q + 1), x.D ++ [y], [], 0, 0, 0, 0⟩, ⟨q + 1, by omega, rfl, ?_, rfl⟩, by show v.b.length - (q + 1) + 1 ≤ x.r; omega, ⟨by simp, hk1⟩, by rw [List.take_length]⟩
        show x.D ++ [y] = _
        rw [take_get hy, escB_app, hq3]
        simp [escB, h0]
    · obtain rfl : q = v.b.length := by omega
      rw [List.take_length] at hq3 hxl
      refine ⟨⟨Nat.le_refl _, by omega, by omega⟩, by simp, ?_⟩
      rw [List.take_length, hq3, List.take_of_length_le (by simp)]; try simp
  · rw [if_neg h1, if_neg h2] at hbig
    rw [if_neg h1, if_neg h2]
    simp only [List.length_append, List.length_cons, List.length_nil] at hbig
    refine ⟨fun x => ∃ q, q ≤ v.l.length ∧ x.k = q ∧ x.D = (64 :: encL (v.l.take q)) ∧ x.r = v.l.length - q, ⟨⟨0, v.l.length, [64], [], 0, 0, 0, 0⟩, ⟨0, by omega, rfl, rfl, rfl⟩, ⟨rfl, rfl⟩, rfl⟩, ?_⟩
    rintro x ⟨q, hq1, hq2, hq3, hq4⟩
    have hesc : (encL v.l).length = (encL (v.l.take q)).length + (encL (v.l.drop q)).length := by rw [← List.length_append, ← encL_app, List.take_append_drop]
    have hxl : x.D.length = 1 + (encL (v.l.take q)).length := by rw [hq3]; simp; omega
    refine And.intro (fun h => ⟨by omega, by omega, fun y hy => ?_⟩) (fun h => ?_)
    · have hy : v.l[q]? = some y := by rw [← hq2]; exact hy
      have hmem : y ∈ v.l := List.mem_of_getElem? hy
      have hd : v.l.drop q = y :: v.l.drop (q + 1) := by rw [List.drop_eq_getElem_cons (by omega)]; congr 1; have := List.getElem?_eq_getElem (l := v.l) (i := q) (by omega); rw [hy] at this; exact (Option.some.inj this).symm
      rw [hd, encL, List.length_append] at hesc
      have hk1 : wr .i64 ((x.k : Int) + 1) = ((q + 1 : Nat) : Int) := by rw [hq2, wr64 (by omega) (by omega)]; omega
      refine ⟨hv.mem hmem, ⟨Nat.le_refl _, by omega, by omega⟩, ⟨q + 1, v.l.length - (q + 1), x.D ++ encV y, [], 0, 0, 0, 0⟩, ⟨q + 1, by omega, rfl, ?_, rfl⟩, by show v.l.length - (q + 1) + 1 ≤ x.r; omega, ⟨by simp, hk1⟩, by rw [List.take_length]⟩
      show x.D ++ encV y = _
      rw [take_get hy, encL_app, hq3]
      simp [encL]
    · obtain rfl : q = v.l.length := by omega
      rw [List.take_length] at hq3 hxl
      refine ⟨⟨Nat.le_refl _, by omega, by omega⟩, by simp, ?_⟩
      rw [List.take_length, hq3, List.take_of_length_le (by simp)]; try simp
def encodeF (v : Val) : List Int × Int := if (shapeV v).2 = false then ([], 10) else if (shapeV v).1 > 16 then ([], 2) else if (encV v).length > 65536 then ([], 2) else (encV v, 0)
noncomputable def SshapeT : Sum thy := sumP dVal (fun x => OkV x.1) fun x => .tup [.int false .i64 (shapeV x.1).1, .bool false (shapeV x.1).2]
theorem SshapeT_ok : SumOk E 56 SshapeT := sumP_ok E_ok (good_of (f := 56) rfl) fun x h => shape_pure x.1 h
noncomputable def SvalN : Sum thy := sumN dVal (fun x => OkV x.1) (fun x => .psl Th.bys (encV x.1) false) SvalT
theorem SvalN_ok : SumOk E 57 SvalN := sumN_ok E_ok SvalT_ok fun x h => val_nil x.1 h
noncomputable def Fenc : Fns thy := addS (addS F0 56 SshapeT) 57 SvalN
theorem Fenc_ok : FnsOk E Fenc := addS_ok (addS_ok F0_ok SshapeT_ok) SvalN_ok
--@cond encode | 45 | Fenc | 400 | (v : Val) | [.agg (encF false .vals v)] | (l : List Int) (e : Int) | .tup [.psl Th.bys l false, .int false .i64 e]
theorem cond_encode (v : Val) (l : List Int) (e : Int) : callF E Fenc (vc E Fenc 400) 45 [.agg (encF false .vals v)] hp0 0 (fun r => ret E (patch hp0 0 r) r.v (.tup [.psl Th.bys l false, .int false .i64 e])) = (
  OkV (Val.mk (Val.k v) (Val.n v) (Val.b v) (Val.l v)) ∧ ((!Prod.snd (shapeV (Val.mk (Val.k v) (Val.n v) (Val.b v) (Val.l v)))) = true → l = [] ∧ (10 : Int) = e ∧ True) ∧ ((!Prod.snd
  (shapeV (Val.mk (Val.k v) (Val.n v) (Val.b v) (Val.l v)))) = false → (decide (Prod.fst (shapeV (Val.mk (Val.k v) (Val.n v) (Val.b v) (Val.l v))) > (16 : Int)) = true → l = [] ∧ (2
  : Int) = e ∧ True) ∧ (decide (Prod.fst (shapeV (Val.mk (Val.k v) (Val.n v) (Val.b v) (Val.l v))) > (16 : Int)) = false → OkV (Val.mk (Val.k v) (Val.n v) (Val.b v) (Val.l v)) ∧
  (decide ((↑(List.length (encV (Val.mk (Val.k v) (Val.n v) (Val.b v) (Val.l v)))) : Int) > (65536 : Int)) = true → l = [] ∧ (2 : Int) = e ∧ True) ∧ (decide ((↑(List.length (encV
  (Val.mk (Val.k v) (Val.n v) (Val.b v) (Val.l v)))) : Int) > (65536 : Int)) = false → (encV (Val.mk (Val.k v) (Val.n v) (Val.b v) (Val.l v)) = l ∧ (false = true → false = true)) ∧
  (0 : Int) = e ∧ True)))
  ) := by kernel_rfl
--@end
theorem encode_pure (v : Val) (hv : OkV v) : PureC E 45 [.agg (encF false .vals v)] (.tup [.psl Th.bys (encodeF v).1 false, .int false .i64 (encodeF v).2]) := by
  refine pure_of_call E_ok (callOk_of E_ok Fenc_ok 400) ?_
  rw [cond_encode]
  simp only [bif_true, bif_false, bif_nt, bif_tf, bif_ft, beq_iff_eq, bne_iff_ne, beq_eq_false_iff_ne, bne_eq_false_iff_eq, decide_eq_true_eq, decide_eq_false_iff_not, Bool.or_eq_true, Bool.or_eq_false_iff, Bool.not_eq_true', Bool.not_eq_false', Bool.and_eq_true, Bool.and_true, Bool.true_and, Bool.and_eq_false_iff, beq_self_eq_true, mm2_max, mm2_min, ne_eq, and_true, true_and, Bool.true_eq_false, Bool.false_eq_true, false_or, or_false, true_implies, imp_self, Int.ofNat_eq_natCast, not_true_eq_false, not_false_eq_true, Decidable.not_not, val_eta]
  refine ⟨hv, fun h => ?_, fun h => And.intro (fun h2 => ?_) (fun h2 => ⟨hv, fun h3 => ?_, fun h3 => ?_⟩)⟩
  all_goals unfold encodeF
  · rw [if_pos (by simpa using h)]; exact ⟨rfl, rfl⟩
  · rw [if_neg (by simpa using h), if_pos h2]; exact ⟨rfl, rfl⟩
  · rw [if_neg (by simpa using h), if_neg h2, if_pos (by omega)]; exact ⟨rfl, rfl⟩
  · rw [if_neg (by simpa using h), if_neg h2, if_neg (by omega)]; exact ⟨rfl, rfl⟩
end Go.Proofs.YtcaomfbcchemnaaDoor

/- Chapter 21: the chapter's examples: everything is computed. -/
namespace Go.Proofs.YtcaomfbcchemnaaDoor
open Go
set_option linter.unusedVariables false
set_option linter.unusedSimpArgs false
set_option maxRecDepth 100000
theorem cond_sane : callF EL F0 (vc EL F0 2000) 8 [] hp0 0 (fun r => ret EL (patch hp0 0 r) r.v (.bool false true)) = (true = true) := by kernel_rfl
theorem sane_pure : PureC E 8 [] (.bool false true) := by
  refine pure_lit (n := 2000) ?_
  rw [cond_sane]
end Go.Proofs.YtcaomfbcchemnaaDoor

/- Chapter 21: digests: the engines that know digest.k. -/
namespace Go.Proofs.YtcaomfbcchemnaaDoor
open Go
set_option linter.unusedVariables false
set_option linter.unusedSimpArgs false
def kNums : List Int := [1116352408, 1899447441, 3049323471, 3921009573, 961987163, 1508970993, 2453635748, 2870763221, 3624381080, 310598401, 607225278, 1426881987, 1925078388, 2162078206, 2614888103, 3248222580, 3835390401, 4022224774, 264347078, 604807628, 770255983, 1249150122, 1555081692, 1996064986, 2554220882, 2821834349, 2952996808, 3210313671, 3336571891, 3584528711, 113926993, 338241895, 666307205, 773529912, 1294757372, 1396182291, 1695183700, 1986661051, 2177026350, 2456956037, 2730485921, 2820302411, 3259730800, 3345764771, 3516065817, 3600352804, 4094571909, 275423344, 430227734, 506948616, 659060556, 883997877, 958139571, 1322822218, 1537002063, 1747873779, 1955562222, 2024104815, 2227730452, 2361852424, 2428436474, 2756734187, 3204031479, 3329325298]
def kSV : SV thy := .agg [.int true .u32 1116352408, .int true .u32 1899447441, .int true .u32 3049323471, .int true .u32 3921009573, .int true .u32 961987163, .int true .u32 1508970993, .int true .u32 2453635748, .int true .u32 2870763221, .int true .u32 3624381080, .int true .u32 310598401, .int true .u32 607225278, .int true .u32 1426881987, .int true .u32 1925078388, .int true .u32 2162078206, .int true .u32 2614888103, .int true .u32 3248222580, .int true .u32 3835390401, .int true .u32 4022224774, .int true .u32 264347078, .int true .u32 604807628, .int true .u32 770255983, .int true .u32 1249150122, .int true .u32 1555081692, .int true .u32 1996064986, .int true .u32 2554220882, .int true .u32 2821834349, .int true .u32 2952996808, .int true .u32 3210313671, .int true .u32 3336571891, .int true .u32 3584528711, .int true .u32 113926993, .int true .u32 338241895, .int true .u32 666307205, .int true .u32 773529912, .int true .u32 1294757372, .int true .u32 1396182291, .int true .u32 1695183700, .int true .u32 1986661051, .int true .u32 2177026350, .int true .u32 2456956037, .int true .u32 2730485921, .int true .u32 2820302411, .int true .u32 3259730800, .int true .u32 3345764771, .int true .u32 3516065817, .int true .u32 3600352804, .int true .u32 4094571909, .int true .u32 275423344, .int true .u32 430227734, .int true .u32 506948616, .int true .u32 659060556, .int true .u32 883997877, .int true .u32 958139571, .int true .u32 1322822218, .int true .u32 1537002063, .int true .u32 1747873779, .int true .u32 1955562222, .int true .u32 2024104815, .int true .u32 2227730452, .int true .u32 2361852424, .int true .u32 2428436474, .int true .u32 2756734187, .int true .u32 3204031479, .int true .u32 3329325298]
def globT2 (n : Nat) : Option (SV thy) := match n with | 1 => some kSV | n => globT n
noncomputable def E2 : Eng thy := { E with glob := globT2 }
noncomputable def EL2 : Eng thy := { EL with glob := globT2 }
theorem E2_ok : EngOk E2 := E_ok.glob globT2
theorem EL2_ok : EngOk EL2 := EL_ok.glob globT2
theorem glob2_sub (n : Nat) (sv : SV thy) (h : globT n = some sv) : globT2 n = some sv := by
  match n, h with
  | 0, h => exact h
theorem up2 {f : FuncId} {args : List (SV thy)} {v : SV thy} (h : PureC E f args v) : PureC E2 f args v := PureC.like (like_glob E globT2).1 (like_glob E globT2).2 glob2_sub h
theorem likeL2 : EngLike EL2 E2 := like_of rfl rfl fun th x => by cases th <;> rfl
theorem like2L : EngLike E2 EL2 := like_of rfl rfl fun th x => by cases th <;> rfl
theorem downL {f : FuncId} {args : List (SV thy)} {v : SV thy} (h : PureC EL2 f args v) : PureC E2 f args v := PureC.like likeL2 like2L (fun _ _ h => h) h
theorem F0_ok2 : FnsOk E2 F0 := ⟨F0_ok.sumG, F0_ok.fnG, (fun f S h => by cases h), F0_ok.fn, (fun f j L h => by cases h)⟩
theorem F0_okL2 : FnsOk EL2 F0 := ⟨F0_ok.sumG, F0_ok.fnG, (fun f S h => by cases h), F0_ok.fn, (fun f j L h => by cases h)⟩
theorem numsOf_ret {E : Eng thy} {h : Hp thy} {kd : IntKind} : ∀ {cs : List (SV thy)} {l : List Int}, numsOf kd cs = some l → retL E h cs (l.map (SV.int false kd)) ∧ l.length = cs.length
  | [], l, h => by cases h; exact ⟨trivial, rfl⟩
  | c :: cs, l, h => by
    unfold numsOf at h
    split at h
    · rename_i he; cases he
    · rename_i f k n r he
      cases he
      split at h
      · rename_i hk hr
        cases h
        have hk := of_decide_eq_true hk
        subst hk
        obtain ⟨h1, h2⟩ := numsOf_ret hr
        refine ⟨⟨?_, h1⟩, by simp [h2]⟩
        show ret0 E _ (.int f k n) (.int false k n)
        unfold ret0 le0
        simp
      · cases h
    · cases h
/-- a row of so many numbers -/
def isRow (kd : IntKind) (m : Nat) (v : SV thy) : Prop := match v with | .agg cs => (match numsOf kd cs, Nat.beq cs.length m with | some _, true => True | _, _ => False) | _ => False
theorem isRow_ret {E : Eng thy} {h : Hp thy} {kd : IntKind} {m : Nat} {v : SV thy} (hv : isRow kd m v) : ∃ l : List Int, l.length = m ∧ ret E h v (rowV kd l) := by
  unfold isRow at hv
  split at hv
  · rename_i cs
    split at hv
    · rename_i l hl hm
      obtain ⟨h1, h2⟩ := numsOf_ret (E := E) (h := h) hl
      exact ⟨l, by rw [h2]; exact Nat.eq_of_beq_eq_true hm, h1⟩
    · exact hv.elim
  · exact hv.elim
theorem pure_ex {E : Eng thy} (hE : EngOk E) {call : Nat → List (SV thy) → Hp thy → Nat → (Res thy → Prop) → Prop} (hcall : CallOk E call) {f : Nat} {args : List (SV thy)} {kd : IntKind} {m : Nat} (hk : call f args hp0 0 fun r => isRow kd m r.v) : ∃ l : List Int, l.length = m ∧ PureC E f args (rowV kd l) := by
  obtain ⟨r, hr, hR, htri⟩ := hcall f args hp0 0 _ (fun b hb => absurd rfl hb) hk
  obtain ⟨l, h1, h2⟩ := isRow_ret (E := E) (h := patch hp0 0 r) hr
  exact ⟨l, h1, pure_of_call hE (call := fun f' a' h' i' k' => ∃ r, k' r ∧ ROk h' r ∧ CallTri E f' a' h' i' r) (fun f' a' h' i' k' _ hk' => hk') ⟨r, h2, hR, htri⟩⟩
end Go.Proofs.YtcaomfbcchemnaaDoor

/- Chapter 21: a block of SHA-256, computed: whatever its bytes, the result is a row of numbers. -/
namespace Go.Proofs.YtcaomfbcchemnaaDoor
open Go
set_option linter.unusedVariables false
set_option linter.unusedSimpArgs false
set_option maxRecDepth 100000
set_option maxHeartbeats 4000000
def blkK (h b : List Int) : Prop := callF EL2 F0 (vc EL2 F0 3000) 73 [rowV .u32 h, .psl Th.bys b false] hp0 0 (fun r => isRow .u32 8 r.v)
theorem cond_block (h0 h1 h2 h3 h4 h5 h6 h7 b0 b1 b2 b3 b4 b5 b6 b7 b8 b9 b10 b11 b12 b13 b14 b15 b16 b17 b18 b19 b20 b21 b22 b23 b24 b25 b26 b27 b28 b29 b30 b31 b32 b33 b34 b35 b36 b37 b38 b39 b40 b41 b42 b43 b44 b45 b46 b47 b48 b49 b50 b51 b52 b53 b54 b55 b56 b57 b58 b59 b60 b61 b62 b63 : Int) : blkK [h0, h1, h2, h3, h4, h5, h6, h7] [b0, b1, b2, b3, b4, b5, b6, b7, b8, b9, b10, b11, b12, b13, b14, b15, b16, b17, b18, b19, b20, b21, b22, b23, b24, b25, b26, b27, b28, b29, b30, b31, b32, b33, b34, b35, b36, b37, b38, b39, b40, b41, b42, b43, b44, b45, b46, b47, b48, b49, b50, b51, b52, b53, b54, b55, b56, b57, b58, b59, b60, b61, b62, b63] = True := by kernel_rfl
end Go.Proofs.YtcaomfbcchemnaaDoor

/- Chapter 21: a block of SHA-256: whatever its bytes, the result is a row of numbers. -/
namespace Go.Proofs.YtcaomfbcchemnaaDoor
open Go
set_option linter.unusedVariables false
set_option linter.unusedSimpArgs false
theorem len_cons {α : Type} {l : List α} {n : Nat} (h : l.length = n + 1) : ∃ a r, l = a :: r ∧ r.length = n := by
  cases l with
  | nil => simp at h
  | cons a r => exact ⟨a, r, rfl, by simpa using h⟩
theorem all8 {P : List Int → Prop} (hP : ∀ b0 b1 b2 b3 b4 b5 b6 b7 : Int, P [b0, b1, b2, b3, b4, b5, b6, b7]) (b : List Int) (hb : b.length = 8) : P b := by
  obtain ⟨b0, s0, rfl, d0⟩ := len_cons hb
  obtain ⟨b1, s1, rfl, d1⟩ := len_cons d0
  obtain ⟨b2, s2, rfl, d2⟩ := len_cons d1
  obtain ⟨b3, s3, rfl, d3⟩ := len_cons d2
  obtain ⟨b4, s4, rfl, d4⟩ := len_cons d3
  obtain ⟨b5, s5, rfl, d5⟩ := len_cons d4
  obtain ⟨b6, s6, rfl, d6⟩ := len_cons d5
  obtain ⟨b7, s7, rfl, d7⟩ := len_cons d6
  obtain rfl := List.eq_nil_of_length_eq_zero d7
  exact hP b0 b1 b2 b3 b4 b5 b6 b7
theorem all64 {P : List Int → Prop} (hP : ∀ b0 b1 b2 b3 b4 b5 b6 b7 b8 b9 b10 b11 b12 b13 b14 b15 b16 b17 b18 b19 b20 b21 b22 b23 b24 b25 b26 b27 b28 b29 b30 b31 b32 b33 b34 b35 b36 b37 b38 b39 b40 b41 b42 b43 b44 b45 b46 b47 b48 b49 b50 b51 b52 b53 b54 b55 b56 b57 b58 b59 b60 b61 b62 b63 : Int, P [b0, b1, b2, b3, b4, b5, b6, b7, b8, b9, b10, b11, b12, b13, b14, b15, b16, b17, b18, b19, b20, b21, b22, b23, b24, b25, b26, b27, b28, b29, b30, b31, b32, b33, b34, b35, b36, b37, b38, b39, b40, b41, b42, b43, b44, b45, b46, b47, b48, b49, b50, b51, b52, b53, b54, b55, b56, b57, b58, b59, b60, b61, b62, b63]) (b : List Int) (hb : b.length = 64) : P b := by
  obtain ⟨b0, s0, rfl, d0⟩ := len_cons hb
  obtain ⟨b1, s1, rfl, d1⟩ := len_cons d0
  obtain ⟨b2, s2, rfl, d2⟩ := len_cons d1
  obtain ⟨b3, s3, rfl, d3⟩ := len_cons d2
  obtain ⟨b4, s4, rfl, d4⟩ := len_cons d3
  obtain ⟨b5, s5, rfl, d5⟩ := len_cons d4
  obtain ⟨b6, s6, rfl, d6⟩ := len_cons d5
  obtain ⟨b7, s7, rfl, d7⟩ := len_cons d6
  obtain ⟨b8, s8, rfl, d8⟩ := len_cons d7
  obtain ⟨b9, s9, rfl, d9⟩ := len_cons d8
  obtain ⟨b10, s10, rfl, d10⟩ := len_cons d9
  obtain ⟨b11, s11, rfl, d11⟩ := len_cons d10
  obtain ⟨b12, s12, rfl, d12⟩ := len_cons d11
  obtain ⟨b13, s13, rfl, d13⟩ := len_cons d12
  obtain ⟨b14, s14, rfl, d14⟩ := len_cons d13
  obtain ⟨b15, s15, rfl, d15⟩ := len_cons d14
  obtain ⟨b16, s16, rfl, d16⟩ := len_cons d15
  obtain ⟨b17, s17, rfl, d17⟩ := len_cons d16
  obtain ⟨b18, s18, rfl, d18⟩ := len_cons d17
  obtain ⟨b19, s19, rfl, d19⟩ := len_cons d18
  obtain ⟨b20, s20, rfl, d20⟩ := len_cons d19
  obtain ⟨b21, s21, rfl, d21⟩ := len_cons d20
  obtain ⟨b22, s22, rfl, d22⟩ := len_cons d21
  obtain ⟨b23, s23, rfl, d23⟩ := len_cons d22
  obtain ⟨b24, s24, rfl, d24⟩ := len_cons d23
  obtain ⟨b25, s25, rfl, d25⟩ := len_cons d24
  obtain ⟨b26, s26, rfl, d26⟩ := len_cons d25
  obtain ⟨b27, s27, rfl, d27⟩ := len_cons d26
  obtain ⟨b28, s28, rfl, d28⟩ := len_cons d27
  obtain ⟨b29, s29, rfl, d29⟩ := len_cons d28
  obtain ⟨b30, s30, rfl, d30⟩ := len_cons d29
  obtain ⟨b31, s31, rfl, d31⟩ := len_cons d30
  obtain ⟨b32, s32, rfl, d32⟩ := len_cons d31
  obtain ⟨b33, s33, rfl, d33⟩ := len_cons d32
  obtain ⟨b34, s34, rfl, d34⟩ := len_cons d33
  obtain ⟨b35, s35, rfl, d35⟩ := len_cons d34
  obtain ⟨b36, s36, rfl, d36⟩ := len_cons d35
  obtain ⟨b37, s37, rfl, d37⟩ := len_cons d36
  obtain ⟨b38, s38, rfl, d38⟩ := len_cons d37
  obtain ⟨b39, s39, rfl, d39⟩ := len_cons d38
  obtain ⟨b40, s40, rfl, d40⟩ := len_cons d39
  obtain ⟨b41, s41, rfl, d41⟩ := len_cons d40
  obtain ⟨b42, s42, rfl, d42⟩ := len_cons d41
  obtain ⟨b43, s43, rfl, d43⟩ := len_cons d42
  obtain ⟨b44, s44, rfl, d44⟩ := len_cons d43
  obtain ⟨b45, s45, rfl, d45⟩ := len_cons d44
  obtain ⟨b46, s46, rfl, d46⟩ := len_cons d45
  obtain ⟨b47, s47, rfl, d47⟩ := len_cons d46
  obtain ⟨b48, s48, rfl, d48⟩ := len_cons d47
  obtain ⟨b49, s49, rfl, d49⟩ := len_cons d48
  obtain ⟨b50, s50, rfl, d50⟩ := len_cons d49
  obtain ⟨b51, s51, rfl, d51⟩ := len_cons d50
  obtain ⟨b52, s52, rfl, d52⟩ := len_cons d51
  obtain ⟨b53, s53, rfl, d53⟩ := len_cons d52
  obtain ⟨b54, s54, rfl, d54⟩ := len_cons d53
  obtain ⟨b55, s55, rfl, d55⟩ := len_cons d54
  obtain ⟨b56, s56, rfl, d56⟩ := len_cons d55
  obtain ⟨b57, s57, rfl, d57⟩ := len_cons d56
  obtain ⟨b58, s58, rfl, d58⟩ := len_cons d57
  obtain ⟨b59, s59, rfl, d59⟩ := len_cons d58
  obtain ⟨b60, s60, rfl, d60⟩ := len_cons d59
  obtain ⟨b61, s61, rfl, d61⟩ := len_cons d60
  obtain ⟨b62, s62, rfl, d62⟩ := len_cons d61
  obtain ⟨b63, s63, rfl, d63⟩ := len_cons d62
  obtain rfl := List.eq_nil_of_length_eq_zero d63
  exact hP b0 b1 b2 b3 b4 b5 b6 b7 b8 b9 b10 b11 b12 b13 b14 b15 b16 b17 b18 b19 b20 b21 b22 b23 b24 b25 b26 b27 b28 b29 b30 b31 b32 b33 b34 b35 b36 b37 b38 b39 b40 b41 b42 b43 b44 b45 b46 b47 b48 b49 b50 b51 b52 b53 b54 b55 b56 b57 b58 b59 b60 b61 b62 b63
theorem blkK_ok {h b : List Int} (hk : blkK h b) : ∃ l : List Int, l.length = 8 ∧ PureC E2 73 [rowV .u32 h, .psl Th.bys b false] (rowV .u32 l) := by
  obtain ⟨l, h1, h2⟩ := pure_ex EL2_ok (callF_ok EL2_ok F0_okL2 fun f N c => (vc_ok EL2_ok F0_okL2 3000 f N c).1) hk
  exact ⟨l, h1, downL h2⟩
attribute [local irreducible] blkK
theorem blkK_all : ∀ h : List Int, h.length = 8 → ∀ b : List Int, b.length = 64 → blkK h b :=
  all8 (P := fun h => ∀ b : List Int, b.length = 64 → blkK h b) (fun h0 h1 h2 h3 h4 h5 h6 h7 => all64 (P := fun b => blkK [h0, h1, h2, h3, h4, h5, h6, h7] b) (fun b0 b1 b2 b3 b4 b5 b6 b7 b8 b9 b10 b11 b12 b13 b14 b15 b16 b17 b18 b19 b20 b21 b22 b23 b24 b25 b26 b27 b28 b29 b30 b31 b32 b33 b34 b35 b36 b37 b38 b39 b40 b41 b42 b43 b44 b45 b46 b47 b48 b49 b50 b51 b52 b53 b54 b55 b56 b57 b58 b59 b60 b61 b62 b63 => (cond_block h0 h1 h2 h3 h4 h5 h6 h7 b0 b1 b2 b3 b4 b5 b6 b7 b8 b9 b10 b11 b12 b13 b14 b15 b16 b17 b18 b19 b20 b21 b22 b23 b24 b25 b26 b27 b28 b29 b30 b31 b32 b33 b34 b35 b36 b37 b38 b39 b40 b41 b42 b43 b44 b45 b46 b47 b48 b49 b50 b51 b52 b53 b54 b55 b56 b57 b58 b59 b60 b61 b62 b63).mpr trivial))
theorem block_ex (h b : List Int) (hh : h.length = 8) (hb : b.length = 64) : ∃ l : List Int, l.length = 8 ∧ PureC E2 73 [rowV .u32 h, .psl Th.bys b false] (rowV .u32 l) := blkK_ok (blkK_all h hh b hb)
/-- what a block of SHA-256 gives -/
noncomputable def blkF (h b : List Int) : List Int := if hh : h.length = 8 ∧ b.length = 64 then (block_ex h b hh.1 hh.2).choose else []
theorem blkF_len {h b : List Int} (hh : h.length = 8) (hb : b.length = 64) : (blkF h b).length = 8 := by
  unfold blkF
  rw [dif_pos ⟨hh, hb⟩]
  exact (block_ex h b hh hb).choose_spec.1
theorem blk_pure {h b : List Int} (hh : h.length = 8) (hb : b.length = 64) : PureC E2 73 [rowV .u32 h, .psl Th.bys b false] (rowV .u32 (blkF h b)) := by
  unfold blkF
  rw [dif_pos ⟨hh, hb⟩]
  exact (block_ex h b hh hb).choose_spec.2
end Go.Proofs.YtcaomfbcchemnaaDoor
