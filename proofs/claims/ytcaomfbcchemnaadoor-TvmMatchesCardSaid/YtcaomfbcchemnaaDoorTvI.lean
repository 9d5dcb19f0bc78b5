/- Chapter 21: runs of the machine. -/
import Derived.Test.YtcaomfbcchemnaaDoorTvH
namespace Go.Proofs.YtcaomfbcchemnaaDoor
open Go
set_option linter.unusedVariables false
set_option linter.unusedSimpArgs false
noncomputable def Sadv : Sum thy := sumP (dL4 dCode dEnv dSt dI) (fun x => CanAdv x.1 x.2.2.1 x.2.2.2.1) fun x => stV (advF x.1 x.2.1 x.2.2.1 x.2.2.2.1)
/-- a machine's state, and how many rounds are left -/
structure SX where
  s : St
  r : Nat
def blkP (h : Hp thy) : SV thy → List (Nat × Blk thy)
  | .ptr b _ => (match h b with | some x => [(b, x)] | none => [])
  | _ => []
/-- the loop of Run -/
def A11 : Fr thy → Hp thy → Nat → Ann thy := fun T h i => { X := SX, fr := fun x => [(0, T 0), (4, T 4), (6, T 6), (10, T 10)], bl := fun x => [(bOf (T 10), .raw (stV x.s).cells 0 none)] ++ blkP h (T 4) ++ blkP h (T 6), src := [], md := [bOf (T 10)], ih := i, M := i + 30, meas := fun x => x.r }
/-- the loop of SameStack -/
def A26 : Fr thy → Hp thy → Nat → Ann thy := fun T h i => { X := LX, fr := fun x => [(0, T 0), (1, T 1), (5, .int false .i64 x.k)], bl := fun x => [], src := [], md := [], ih := i, M := i + 30, meas := fun x => x.r }
noncomputable def F6 : Fns thy := addL (addL (addS F5 34 Sadv) 11 7 A11 E) 26 4 A26 E
theorem F6_ok : FnsOk E F6 := addL_ok E_ok (addL_ok E_ok (addS_ok F5_ok (sumP_ok E_ok (good_of (f := 34) rfl) fun x h => advance_pure x.1 x.2.1 x.2.2.1 x.2.2.2.1 h)) _ _ _) _ _ _
--@cond run | 11 | F6 | 400 | (c : List Ins) (v : Env) (f : Int) | [.psl .ins c false, envV v, .int false .i64 f] | (z : St) (e : Int) | .tup [stV z, .int false .i64 e]
theorem cond_run (c : List Ins) (v : Env) (f : Int) (z : St) (e : Int) : callF E F6 (vc E F6 400) 11 [.psl .ins c false, envV v, .int false .i64 f] hp0 0 (fun r => ret E (patch hp0 0 r) r.v (.tup [stV z, .int false .i64 e])) = (
  True ∧ ((Prod.snd (verF c) != (0 : Int)) = true → ((0 : Int) = St.pc z ∧ (0 : Int) = St.fuel z ∧ (0 : Int) = St.status z ∧ (0 : Int) = St.clause z ∧ St.stack z = [] ∧ True) ∧
  Prod.snd (verF c) = e ∧ True) ∧ ((Prod.snd (verF c) != (0 : Int)) = false → ∃ (Q : Bool → Prop), ((decide (f < (0 : Int)) = true → Q true) ∧ (decide (f < (0 : Int)) = false →
  (decide (f > (32768 : Int)) = true → Q true) ∧ (decide (f > (32768 : Int)) = false → Q false))) ∧ (Q true → ((0 : Int) = St.pc z ∧ (0 : Int) = St.fuel z ∧ (0 : Int) = St.status z ∧
  (0 : Int) = St.clause z ∧ St.stack z = [] ∧ True) ∧ (1 : Int) = e ∧ True) ∧ (Q false → ∃ (R : SX → Prop), (∃ (x : SX), R x ∧ true = true ∧ ((c = c ∧ (false = true → false = true))
  ∧ (0 : Nat) = (0 : Nat) ∧ (0 : Nat) = (0 : Nat) ∧ (0 : Nat) = (0 : Nat) ∧ True) ∧ ((0 : Int) = St.pc (SX.s x) ∧ f = St.fuel (SX.s x) ∧ (0 : Int) = St.status (SX.s x) ∧ (0 : Int) =
  St.clause (SX.s x) ∧ St.stack (SX.s x) = [] ∧ True) ∧ (Env.has v = Env.has v ∧ Env.v0 v = Env.v0 v ∧ Env.v1 v = Env.v1 v ∧ Env.v2 v = Env.v2 v ∧ Env.v3 v = Env.v3 v ∧ Env.v4 v =
  Env.v4 v ∧ Env.v5 v = Env.v5 v ∧ Env.v6 v = Env.v6 v ∧ Env.v7 v = Env.v7 v ∧ Env.v8 v = Env.v8 v ∧ Env.v9 v = Env.v9 v ∧ Env.v10 v = Env.v10 v ∧ Env.v11 v = Env.v11 v ∧ Env.v12 v =
  Env.v12 v ∧ Env.v13 v = Env.v13 v ∧ Env.v14 v = Env.v14 v ∧ Env.v15 v = Env.v15 v ∧ True) ∧ ((0 : Int) = (0 : Int) ∧ (0 : Int) = (0 : Int) ∧ (0 : Int) = (0 : Int) ∧ (0 : Int) = (0
  : Int) ∧ Value.slice none (0 : Nat) (0 : Nat) = Value.slice none (0 : Nat) (0 : Nat) ∧ True) ∧ True) ∧ ∀ (x : SX), R x → ((St.status (SX.s x) == (0 : Int)) = true → CanAdv c (SX.s
  x) (0 : Int) ∧ ∃ (x' : SX), R x' ∧ x'.2 + (1 : Nat) ≤ x.2 ∧ true = true ∧ ((c = c ∧ (false = true → false = true)) ∧ (0 : Nat) = (0 : Nat) ∧ (0 : Nat) = (0 : Nat) ∧ (0 : Nat) = (0
  : Nat) ∧ True) ∧ (St.pc (advF c v (SX.s x) (0 : Int)) = St.pc (SX.s x') ∧ St.fuel (advF c v (SX.s x) (0 : Int)) = St.fuel (SX.s x') ∧ St.status (advF c v (SX.s x) (0 : Int)) =
  St.status (SX.s x') ∧ St.clause (advF c v (SX.s x) (0 : Int)) = St.clause (SX.s x') ∧ (St.stack (advF c v (SX.s x) (0 : Int)) = St.stack (SX.s x') ∧ (false = true → false = true))
  ∧ True) ∧ (Env.has v = Env.has v ∧ Env.v0 v = Env.v0 v ∧ Env.v1 v = Env.v1 v ∧ Env.v2 v = Env.v2 v ∧ Env.v3 v = Env.v3 v ∧ Env.v4 v = Env.v4 v ∧ Env.v5 v = Env.v5 v ∧ Env.v6 v =
  Env.v6 v ∧ Env.v7 v = Env.v7 v ∧ Env.v8 v = Env.v8 v ∧ Env.v9 v = Env.v9 v ∧ Env.v10 v = Env.v10 v ∧ Env.v11 v = Env.v11 v ∧ Env.v12 v = Env.v12 v ∧ Env.v13 v = Env.v13 v ∧ Env.v14
  v = Env.v14 v ∧ Env.v15 v = Env.v15 v ∧ True) ∧ ((0 : Int) = (0 : Int) ∧ (0 : Int) = (0 : Int) ∧ (0 : Int) = (0 : Int) ∧ (0 : Int) = (0 : Int) ∧ Value.slice none (0 : Nat) (0 :
  Nat) = Value.slice none (0 : Nat) (0 : Nat) ∧ True) ∧ True) ∧ ((St.status (SX.s x) == (0 : Int)) = false → (St.pc (SX.s x) = St.pc z ∧ St.fuel (SX.s x) = St.fuel z ∧ St.status
  (SX.s x) = St.status z ∧ St.clause (SX.s x) = St.clause z ∧ (St.stack (SX.s x) = St.stack z ∧ (false = true → false = true)) ∧ True) ∧ (0 : Int) = e ∧ True)))
  ) := by kernel_rfl
--@end
--@cond step | 15 | F6 | 400 | (c : List Ins) (v : Env) (s : St) | [.psl .ins c false, envV v, stV s] | (z : St) (e : Int) | .tup [stV z, .int false .i64 e]
theorem cond_step (c : List Ins) (v : Env) (s : St) (z : St) (e : Int) : callF E F6 (vc E F6 400) 15 [.psl .ins c false, envV v, stV s] hp0 0 (fun r => ret E (patch hp0 0 r) r.v (.tup [stV z, .int false .i64 e])) = (
  ((St.status s != (0 : Int)) = true → ((0 : Int) = St.pc z ∧ (0 : Int) = St.fuel z ∧ (0 : Int) = St.status z ∧ (0 : Int) = St.clause z ∧ St.stack z = [] ∧ True) ∧ (211 : Int) = e ∧
  True) ∧ ((St.status s != (0 : Int)) = false → True ∧ ((Prod.snd (verF c) != (0 : Int)) = true → ((Prod.snd (verF c) != (0 : Int)) = true → ((0 : Int) = St.pc z ∧ (0 : Int) =
  St.fuel z ∧ (0 : Int) = St.status z ∧ (0 : Int) = St.clause z ∧ St.stack z = [] ∧ True) ∧ Prod.snd (verF c) = e ∧ True) ∧ ((Prod.snd (verF c) != (0 : Int)) = false → CanAdv c s (0
  : Int) ∧ (St.pc (advF c v s (0 : Int)) = St.pc z ∧ St.fuel (advF c v s (0 : Int)) = St.fuel z ∧ St.status (advF c v s (0 : Int)) = St.status z ∧ St.clause (advF c v s (0 : Int)) =
  St.clause z ∧ (St.stack (advF c v s (0 : Int)) = St.stack z ∧ (false = true → false = true)) ∧ True) ∧ (0 : Int) = e ∧ True)) ∧ ((Prod.snd (verF c) != (0 : Int)) = false → ∃ (Q :
  Bool → Prop), ((decide (St.pc s < (0 : Int)) = true → Q true) ∧ (decide (St.pc s < (0 : Int)) = false → (decide (St.pc s ≥ (↑(List.length c) : Int)) = true → Q true) ∧ (decide
  (St.pc s ≥ (↑(List.length c) : Int)) = false → (decide (St.fuel s < (0 : Int)) = true → Q true) ∧ (decide (St.fuel s < (0 : Int)) = false → (decide (St.fuel s > (32768 : Int)) =
  true → Q true) ∧ (decide (St.fuel s > (32768 : Int)) = false → ((St.clause s != (0 : Int)) = true → Q true) ∧ ((St.clause s != (0 : Int)) = false → (decide ((↑(List.length
  (St.stack s)) : Int) > (64 : Int)) = true → Q true) ∧ (decide ((↑(List.length (St.stack s)) : Int) > (64 : Int)) = false → Q false))))))) ∧ (Q true → ((0 : Int) = St.pc z ∧ (0 :
  Int) = St.fuel z ∧ (0 : Int) = St.status z ∧ (0 : Int) = St.clause z ∧ St.stack z = [] ∧ True) ∧ (1 : Int) = e ∧ True) ∧ (Q false → CanAdv c s (0 : Int) ∧ (St.pc (advF c v s (0 :
  Int)) = St.pc z ∧ St.fuel (advF c v s (0 : Int)) = St.fuel z ∧ St.status (advF c v s (0 : Int)) = St.status z ∧ St.clause (advF c v s (0 : Int)) = St.clause z ∧ (St.stack (advF c v
  s (0 : Int)) = St.stack z ∧ (false = true → false = true)) ∧ True) ∧ (0 : Int) = e ∧ True)))
  ) := by kernel_rfl
--@end
--@cond start | 13 | F6 | 400 | (f : Int) | [.int false .i64 f] | (z : St) (e : Int) | .tup [stV z, .int false .i64 e]
theorem cond_start (f : Int) (z : St) (e : Int) : callF E F6 (vc E F6 400) 13 [.int false .i64 f] hp0 0 (fun r => ret E (patch hp0 0 r) r.v (.tup [stV z, .int false .i64 e])) = (
  ∃ (Q : Bool → Prop), ((decide (f < (0 : Int)) = true → Q true) ∧ (decide (f < (0 : Int)) = false → (decide (f > (32768 : Int)) = true → Q true) ∧ (decide (f > (32768 : Int)) =
  false → Q false))) ∧ (Q true → ((0 : Int) = St.pc z ∧ (0 : Int) = St.fuel z ∧ (0 : Int) = St.status z ∧ (0 : Int) = St.clause z ∧ St.stack z = [] ∧ True) ∧ (1 : Int) = e ∧ True) ∧
  (Q false → ((0 : Int) = St.pc z ∧ f = St.fuel z ∧ (0 : Int) = St.status z ∧ (0 : Int) = St.clause z ∧ St.stack z = [] ∧ True) ∧ (0 : Int) = e ∧ True)
  ) := by kernel_rfl
--@end
--@cond rstart | 14 | F6 | 400 | (f : Int) | [.int false .i64 f] | (z : St) (e : Int) | .tup [stV z, .int false .i64 e]
theorem cond_rstart (f : Int) (z : St) (e : Int) : callF E F6 (vc E F6 400) 14 [.int false .i64 f] hp0 0 (fun r => ret E (patch hp0 0 r) r.v (.tup [stV z, .int false .i64 e])) = (
  ∃ (Q : Bool → Prop), ((decide (f < (0 : Int)) = true → Q true) ∧ (decide (f < (0 : Int)) = false → (decide (f > (32768 : Int)) = true → Q true) ∧ (decide (f > (32768 : Int)) =
  false → Q false))) ∧ (Q true → ((0 : Int) = St.pc z ∧ (0 : Int) = St.fuel z ∧ (0 : Int) = St.status z ∧ (0 : Int) = St.clause z ∧ St.stack z = [] ∧ True) ∧ (1 : Int) = e ∧ True) ∧
  (Q false → ((0 : Int) = St.pc z ∧ f = St.fuel z ∧ (0 : Int) = St.status z ∧ (0 : Int) = St.clause z ∧ St.stack z = [] ∧ True) ∧ (0 : Int) = e ∧ True)
  ) := by kernel_rfl
--@end
--@cond result | 18 | F6 | 400 | (s : St) | [stV s] | (a b e : Int) | .tup [.int false .i64 a, .int false .i64 b, .int false .i64 e]
theorem cond_result (s : St) (a b e : Int) : callF E F6 (vc E F6 400) 18 [stV s] hp0 0 (fun r => ret E (patch hp0 0 r) r.v (.tup [.int false .i64 a, .int false .i64 b, .int false .i64 e])) = (
  ((St.status s == (1 : Int)) = true → (decide ((↑(List.length (St.stack s)) : Int) > (0 : Int)) = true → (0 : Int) ≤ wr IntKind.i64 ((↑(List.length (St.stack s)) : Int) - (1 : Int))
  ∧ wr IntKind.i64 ((↑(List.length (St.stack s)) : Int) - (1 : Int)) + (1 : Int) ≤ (↑(List.length (St.stack s)) : Int) ∧ ∀ (x : Int), (St.stack s)[Int.toNat (wr IntKind.i64
  ((↑(List.length (St.stack s)) : Int) - (1 : Int)))]? = some x → x = a ∧ St.clause s = b ∧ (0 : Int) = e ∧ True) ∧ (decide ((↑(List.length (St.stack s)) : Int) > (0 : Int)) = false
  → (decide (St.status s > (10 : Int)) = true → (0 : Int) = a ∧ (0 : Int) = b ∧ wr IntKind.i64 (St.status s - (10 : Int)) = e ∧ True) ∧ (decide (St.status s > (10 : Int)) = false →
  (0 : Int) = a ∧ (0 : Int) = b ∧ (1 : Int) = e ∧ True))) ∧ ((St.status s == (1 : Int)) = false → (decide (St.status s > (10 : Int)) = true → (0 : Int) = a ∧ (0 : Int) = b ∧ wr
  IntKind.i64 (St.status s - (10 : Int)) = e ∧ True) ∧ (decide (St.status s > (10 : Int)) = false → (0 : Int) = a ∧ (0 : Int) = b ∧ (1 : Int) = e ∧ True))
  ) := by kernel_rfl
--@end
--@cond rresult | 19 | F6 | 400 | (s : St) | [stV s] | (a b e : Int) | .tup [.int false .i64 a, .int false .i64 b, .int false .i64 e]
theorem cond_rresult (s : St) (a b e : Int) : callF E F6 (vc E F6 400) 19 [stV s] hp0 0 (fun r => ret E (patch hp0 0 r) r.v (.tup [.int false .i64 a, .int false .i64 b, .int false .i64 e])) = (
  ∃ (Q : Bool → Prop), (((St.status s == (1 : Int)) = true → (decide ((↑(List.length (St.stack s)) : Int) > (0 : Int)) = true → Q true) ∧ (decide ((↑(List.length (St.stack s)) : Int)
  > (0 : Int)) = false → Q false)) ∧ ((St.status s == (1 : Int)) = false → Q false)) ∧ (Q true → (0 : Int) ≤ wr IntKind.i64 ((↑(List.length (St.stack s)) : Int) - (1 : Int)) ∧ wr
  IntKind.i64 ((↑(List.length (St.stack s)) : Int) - (1 : Int)) + (1 : Int) ≤ (↑(List.length (St.stack s)) : Int) ∧ ∀ (x : Int), (St.stack s)[Int.toNat (wr IntKind.i64
  ((↑(List.length (St.stack s)) : Int) - (1 : Int)))]? = some x → x = a ∧ St.clause s = b ∧ (0 : Int) = e ∧ True) ∧ (Q false → (decide (St.status s > (10 : Int)) = true → (0 : Int) =
  a ∧ (0 : Int) = b ∧ wr IntKind.i64 (St.status s - (10 : Int)) = e ∧ True) ∧ (decide (St.status s > (10 : Int)) = false → (0 : Int) = a ∧ (0 : Int) = b ∧ (1 : Int) = e ∧ True))
  ) := by kernel_rfl
--@end
--@cond same | 12 | F6 | 400 | (a b : St) | [stV a, stV b] | (q : Bool) | .bool false q
theorem cond_same (a b : St) (q : Bool) : callF E F6 (vc E F6 400) 12 [stV a, stV b] hp0 0 (fun r => ret E (patch hp0 0 r) r.v (.bool false q)) = (
  ((St.pc a == St.pc b) = true → ((St.fuel a == St.fuel b) = true → ((St.status a == St.status b) = true → ((St.clause a == St.clause b) = true → (((↑(List.length (St.stack a)) :
  Int) != (↑(List.length (St.stack b)) : Int)) = true → false = q) ∧ (((↑(List.length (St.stack a)) : Int) != (↑(List.length (St.stack b)) : Int)) = false → ∃ (R : LX → Prop), (∃ (x
  : LX), R x ∧ true = true ∧ ((St.stack a = St.stack a ∧ (false = true → false = true)) ∧ (St.stack b = St.stack b ∧ (false = true → false = true)) ∧ (0 : Int) = (↑(LX.k x) : Int) ∧
  True) ∧ True) ∧ ∀ (x : LX), R x → (decide ((↑(LX.k x) : Int) < (↑(List.length (St.stack a)) : Int)) = true → (0 : Int) ≤ (↑(LX.k x) : Int) ∧ (↑(LX.k x) : Int) + (1 : Int) ≤
  (↑(List.length (St.stack a)) : Int) ∧ ∀ (x_1 : Int), (St.stack a)[Int.toNat (↑(LX.k x) : Int)]? = some x_1 → (0 : Int) ≤ (↑(LX.k x) : Int) ∧ (↑(LX.k x) : Int) + (1 : Int) ≤
  (↑(List.length (St.stack b)) : Int) ∧ ∀ (x_2 : Int), (St.stack b)[Int.toNat (↑(LX.k x) : Int)]? = some x_2 → ((x_1 != x_2) = true → false = q) ∧ ((x_1 != x_2) = false → ∃ (x' :
  LX), R x' ∧ x'.2 + (1 : Nat) ≤ x.2 ∧ true = true ∧ ((St.stack a = St.stack a ∧ (false = true → false = true)) ∧ (St.stack b = St.stack b ∧ (false = true → false = true)) ∧ wr
  IntKind.i64 ((↑(LX.k x) : Int) + (1 : Int)) = (↑(LX.k x') : Int) ∧ True) ∧ True)) ∧ (decide ((↑(LX.k x) : Int) < (↑(List.length (St.stack a)) : Int)) = false → true = q))) ∧
  ((St.clause a == St.clause b) = false → false = q)) ∧ ((St.status a == St.status b) = false → false = q)) ∧ ((St.fuel a == St.fuel b) = false → false = q)) ∧ ((St.pc a == St.pc b)
  = false → false = q)
  ) := by kernel_rfl
--@end
end Go.Proofs.YtcaomfbcchemnaaDoor
