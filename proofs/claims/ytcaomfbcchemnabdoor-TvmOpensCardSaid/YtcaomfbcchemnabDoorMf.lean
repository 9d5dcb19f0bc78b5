/- Merged texts: TvUi, TvUj. -/
import Derived.Test.YtcaomfbcchemnabDoorMe
/- Digests of states: Inputs, whole, Digest, Close. -/
namespace Go.Proofs.YtcaomfbcchemnabDoor
open Go
set_option linter.unusedVariables false
set_option linter.unusedSimpArgs false
noncomputable def Finp : Fns thy := addS F0 35 Shash
theorem Finp_ok : FnsOk E2 Finp := addS_ok F0_ok2 Shash_ok
--@cond inputs | 39 | E2:Finp | 400 | (v : Env) | [envV v] | (z : List Int) | dig32 z
theorem cond_inputs (v : Env) (z : List Int) : callF E2 Finp (vc E2 Finp 400) 39 [envV v] hp0 0 (fun r => ret E2 (patch hp0 0 r) r.v (dig32 z)) = (
  ((1 : Nat) ≤ (1 : Nat) ∧ (0 : Nat) ≤ (1 : Nat) ∧ ((1 : Nat) + (1 : Nat)) * (64 : Nat) ≤ (140737488355328 : Nat)) ∧ ((1 : Nat) + (1 : Nat) ≤ List.length (List.take (1 : Nat) [Val.mk
  (1 : Int) (Env.v0 v) [] []] ++ [Val.mk (1 : Int) (Env.v1 v) [] []]) ∧ (0 : Nat) ≤ (1 : Nat) + (1 : Nat) ∧ ((1 : Nat) + (1 : Nat) + (1 : Nat)) * (64 : Nat) ≤ (140737488355328 :
  Nat)) ∧ ((1 : Nat) + (1 : Nat) + (1 : Nat) ≤ List.length (List.take ((1 : Nat) + (1 : Nat)) (List.take (1 : Nat) [Val.mk (1 : Int) (Env.v0 v) [] []] ++ [Val.mk (1 : Int) (Env.v1 v)
  [] []]) ++ [Val.mk (1 : Int) (Env.v2 v) [] []]) ∧ (0 : Nat) ≤ (1 : Nat) + (1 : Nat) + (1 : Nat) ∧ ((1 : Nat) + (1 : Nat) + (1 : Nat) + (1 : Nat)) * (64 : Nat) ≤ (140737488355328 :
  Nat)) ∧ ((1 : Nat) + (1 : Nat) + (1 : Nat) + (1 : Nat) ≤ List.length (List.take ((1 : Nat) + (1 : Nat) + (1 : Nat)) (List.take ((1 : Nat) + (1 : Nat)) (List.take (1 : Nat) [Val.mk
  (1 : Int) (Env.v0 v) [] []] ++ [Val.mk (1 : Int) (Env.v1 v) [] []]) ++ [Val.mk (1 : Int) (Env.v2 v) [] []]) ++ [Val.mk (1 : Int) (Env.v3 v) [] []]) ∧ (0 : Nat) ≤ (1 : Nat) + (1 :
  Nat) + (1 : Nat) + (1 : Nat) ∧ ((1 : Nat) + (1 : Nat) + (1 : Nat) + (1 : Nat) + (1 : Nat)) * (64 : Nat) ≤ (140737488355328 : Nat)) ∧ ((1 : Nat) + (1 : Nat) + (1 : Nat) + (1 : Nat)
  + (1 : Nat) ≤ List.length (List.take ((1 : Nat) + (1 : Nat) + (1 : Nat) + (1 : Nat)) (List.take ((1 : Nat) + (1 : Nat) + (1 : Nat)) (List.take ((1 : Nat) + (1 : Nat)) (List.take (1
  : Nat) [Val.mk (1 : Int) (Env.v0 v) [] []] ++ [Val.mk (1 : Int) (Env.v1 v) [] []]) ++ [Val.mk (1 : Int) (Env.v2 v) [] []]) ++ [Val.mk (1 : Int) (Env.v3 v) [] []]) ++ [Val.mk (1 :
  Int) (Env.v4 v) [] []]) ∧ (0 : Nat) ≤ (1 : Nat) + (1 : Nat) + (1 : Nat) + (1 : Nat) + (1 : Nat) ∧ ((1 : Nat) + (1 : Nat) + (1 : Nat) + (1 : Nat) + (1 : Nat) + (1 : Nat)) * (64 :
  Nat) ≤ (140737488355328 : Nat)) ∧ ((1 : Nat) + (1 : Nat) + (1 : Nat) + (1 : Nat) + (1 : Nat) + (1 : Nat) ≤ List.length (List.take ((1 : Nat) + (1 : Nat) + (1 : Nat) + (1 : Nat) +
  (1 : Nat)) (List.take ((1 : Nat) + (1 : Nat) + (1 : Nat) + (1 : Nat)) (List.take ((1 : Nat) + (1 : Nat) + (1 : Nat)) (List.take ((1 : Nat) + (1 : Nat)) (List.take (1 : Nat) [Val.mk
  (1 : Int) (Env.v0 v) [] []] ++ [Val.mk (1 : Int) (Env.v1 v) [] []]) ++ [Val.mk (1 : Int) (Env.v2 v) [] []]) ++ [Val.mk (1 : Int) (Env.v3 v) [] []]) ++ [Val.mk (1 : Int) (Env.v4 v)
  [] []]) ++ [Val.mk (1 : Int) (Env.v5 v) [] []]) ∧ (0 : Nat) ≤ (1 : Nat) + (1 : Nat) + (1 : Nat) + (1 : Nat) + (1 : Nat) + (1 : Nat) ∧ ((1 : Nat) + (1 : Nat) + (1 : Nat) + (1 : Nat)
  + (1 : Nat) + (1 : Nat) + (1 : Nat)) * (64 : Nat) ≤ (140737488355328 : Nat)) ∧ ((1 : Nat) + (1 : Nat) + (1 : Nat) + (1 : Nat) + (1 : Nat) + (1 : Nat) + (1 : Nat) ≤ List.length
  (List.take ((1 : Nat) + (1 : Nat) + (1 : Nat) + (1 : Nat) + (1 : Nat) + (1 : Nat)) (List.take ((1 : Nat) + (1 : Nat) + (1 : Nat) + (1 : Nat) + (1 : Nat)) (List.take ((1 : Nat) + (1
  : Nat) + (1 : Nat) + (1 : Nat)) (List.take ((1 : Nat) + (1 : Nat) + (1 : Nat)) (List.take ((1 : Nat) + (1 : Nat)) (List.take (1 : Nat) [Val.mk (1 : Int) (Env.v0 v) [] []] ++
  [Val.mk (1 : Int) (Env.v1 v) [] []]) ++ [Val.mk (1 : Int) (Env.v2 v) [] []]) ++ [Val.mk (1 : Int) (Env.v3 v) [] []]) ++ [Val.mk (1 : Int) (Env.v4 v) [] []]) ++ [Val.mk (1 : Int)
  (Env.v5 v) [] []]) ++ [Val.mk (1 : Int) (Env.v6 v) [] []]) ∧ (0 : Nat) ≤ (1 : Nat) + (1 : Nat) + (1 : Nat) + (1 : Nat) + (1 : Nat) + (1 : Nat) + (1 : Nat) ∧ ((1 : Nat) + (1 : Nat)
  + (1 : Nat) + (1 : Nat) + (1 : Nat) + (1 : Nat) + (1 : Nat) + (1 : Nat)) * (64 : Nat) ≤ (140737488355328 : Nat)) ∧ ((1 : Nat) + (1 : Nat) + (1 : Nat) + (1 : Nat) + (1 : Nat) + (1 :
  Nat) + (1 : Nat) + (1 : Nat) ≤ List.length (List.take ((1 : Nat) + (1 : Nat) + (1 : Nat) + (1 : Nat) + (1 : Nat) + (1 : Nat) + (1 : Nat)) (List.take ((1 : Nat) + (1 : Nat) + (1 :
  Nat) + (1 : Nat) + (1 : Nat) + (1 : Nat)) (List.take ((1 : Nat) + (1 : Nat) + (1 : Nat) + (1 : Nat) + (1 : Nat)) (List.take ((1 : Nat) + (1 : Nat) + (1 : Nat) + (1 : Nat))
  (List.take ((1 : Nat) + (1 : Nat) + (1 : Nat)) (List.take ((1 : Nat) + (1 : Nat)) (List.take (1 : Nat) [Val.mk (1 : Int) (Env.v0 v) [] []] ++ [Val.mk (1 : Int) (Env.v1 v) [] []])
  ++ [Val.mk (1 : Int) (Env.v2 v) [] []]) ++ [Val.mk (1 : Int) (Env.v3 v) [] []]) ++ [Val.mk (1 : Int) (Env.v4 v) [] []]) ++ [Val.mk (1 : Int) (Env.v5 v) [] []]) ++ [Val.mk (1 : Int)
  (Env.v6 v) [] []]) ++ [Val.mk (1 : Int) (Env.v7 v) [] []]) ∧ (0 : Nat) ≤ (1 : Nat) + (1 : Nat) + (1 : Nat) + (1 : Nat) + (1 : Nat) + (1 : Nat) + (1 : Nat) + (1 : Nat) ∧ ((1 : Nat)
  + (1 : Nat) + (1 : Nat) + (1 : Nat) + (1 : Nat) + (1 : Nat) + (1 : Nat) + (1 : Nat) + (1 : Nat)) * (64 : Nat) ≤ (140737488355328 : Nat)) ∧ ((1 : Nat) + (1 : Nat) + (1 : Nat) + (1 :
  Nat) + (1 : Nat) + (1 : Nat) + (1 : Nat) + (1 : Nat) + (1 : Nat) ≤ List.length (List.take ((1 : Nat) + (1 : Nat) + (1 : Nat) + (1 : Nat) + (1 : Nat) + (1 : Nat) + (1 : Nat) + (1 :
  Nat)) (List.take ((1 : Nat) + (1 : Nat) + (1 : Nat) + (1 : Nat) + (1 : Nat) + (1 : Nat) + (1 : Nat)) (List.take ((1 : Nat) + (1 : Nat) + (1 : Nat) + (1 : Nat) + (1 : Nat) + (1 :
  Nat)) (List.take ((1 : Nat) + (1 : Nat) + (1 : Nat) + (1 : Nat) + (1 : Nat)) (List.take ((1 : Nat) + (1 : Nat) + (1 : Nat) + (1 : Nat)) (List.take ((1 : Nat) + (1 : Nat) + (1 :
  Nat)) (List.take ((1 : Nat) + (1 : Nat)) (List.take (1 : Nat) [Val.mk (1 : Int) (Env.v0 v) [] []] ++ [Val.mk (1 : Int) (Env.v1 v) [] []]) ++ [Val.mk (1 : Int) (Env.v2 v) [] []]) ++
  [Val.mk (1 : Int) (Env.v3 v) [] []]) ++ [Val.mk (1 : Int) (Env.v4 v) [] []]) ++ [Val.mk (1 : Int) (Env.v5 v) [] []]) ++ [Val.mk (1 : Int) (Env.v6 v) [] []]) ++ [Val.mk (1 : Int)
  (Env.v7 v) [] []]) ++ [Val.mk (1 : Int) (Env.v8 v) [] []]) ∧ (0 : Nat) ≤ (1 : Nat) + (1 : Nat) + (1 : Nat) + (1 : Nat) + (1 : Nat) + (1 : Nat) + (1 : Nat) + (1 : Nat) + (1 : Nat) ∧
  ((1 : Nat) + (1 : Nat) + (1 : Nat) + (1 : Nat) + (1 : Nat) + (1 : Nat) + (1 : Nat) + (1 : Nat) + (1 : Nat) + (1 : Nat)) * (64 : Nat) ≤ (140737488355328 : Nat)) ∧ ((1 : Nat) + (1 :
  Nat) + (1 : Nat) + (1 : Nat) + (1 : Nat) + (1 : Nat) + (1 : Nat) + (1 : Nat) + (1 : Nat) + (1 : Nat) ≤ List.length (List.take ((1 : Nat) + (1 : Nat) + (1 : Nat) + (1 : Nat) + (1 :
  Nat) + (1 : Nat) + (1 : Nat) + (1 : Nat) + (1 : Nat)) (List.take ((1 : Nat) + (1 : Nat) + (1 : Nat) + (1 : Nat) + (1 : Nat) + (1 : Nat) + (1 : Nat) + (1 : Nat)) (List.take ((1 :
  Nat) + (1 : Nat) + (1 : Nat) + (1 : Nat) + (1 : Nat) + (1 : Nat) + (1 : Nat)) (List.take ((1 : Nat) + (1 : Nat) + (1 : Nat) + (1 : Nat) + (1 : Nat) + (1 : Nat)) (List.take ((1 :
  Nat) + (1 : Nat) + (1 : Nat) + (1 : Nat) + (1 : Nat)) (List.take ((1 : Nat) + (1 : Nat) + (1 : Nat) + (1 : Nat)) (List.take ((1 : Nat) + (1 : Nat) + (1 : Nat)) (List.take ((1 :
  Nat) + (1 : Nat)) (List.take (1 : Nat) [Val.mk (1 : Int) (Env.v0 v) [] []] ++ [Val.mk (1 : Int) (Env.v1 v) [] []]) ++ [Val.mk (1 : Int) (Env.v2 v) [] []]) ++ [Val.mk (1 : Int)
  (Env.v3 v) [] []]) ++ [Val.mk (1 : Int) (Env.v4 v) [] []]) ++ [Val.mk (1 : Int) (Env.v5 v) [] []]) ++ [Val.mk (1 : Int) (Env.v6 v) [] []]) ++ [Val.mk (1 : Int) (Env.v7 v) [] []])
  ++ [Val.mk (1 : Int) (Env.v8 v) [] []]) ++ [Val.mk (1 : Int) (Env.v9 v) [] []]) ∧ (0 : Nat) ≤ (1 : Nat) + (1 : Nat) + (1 : Nat) + (1 : Nat) + (1 : Nat) + (1 : Nat) + (1 : Nat) + (1
  : Nat) + (1 : Nat) + (1 : Nat) ∧ ((1 : Nat) + (1 : Nat) + (1 : Nat) + (1 : Nat) + (1 : Nat) + (1 : Nat) + (1 : Nat) + (1 : Nat) + (1 : Nat) + (1 : Nat) + (1 : Nat)) * (64 : Nat) ≤
  (140737488355328 : Nat)) ∧ ((1 : Nat) + (1 : Nat) + (1 : Nat) + (1 : Nat) + (1 : Nat) + (1 : Nat) + (1 : Nat) + (1 : Nat) + (1 : Nat) + (1 : Nat) + (1 : Nat) ≤ List.length
  (List.take ((1 : Nat) + (1 : Nat) + (1 : Nat) + (1 : Nat) + (1 : Nat) + (1 : Nat) + (1 : Nat) + (1 : Nat) + (1 : Nat) + (1 : Nat)) (List.take ((1 : Nat) + (1 : Nat) + (1 : Nat) +
  (1 : Nat) + (1 : Nat) + (1 : Nat) + (1 : Nat) + (1 : Nat) + (1 : Nat)) (List.take ((1 : Nat) + (1 : Nat) + (1 : Nat) + (1 : Nat) + (1 : Nat) + (1 : Nat) + (1 : Nat) + (1 : Nat))
  (List.take ((1 : Nat) + (1 : Nat) + (1 : Nat) + (1 : Nat) + (1 : Nat) + (1 : Nat) + (1 : Nat)) (List.take ((1 : Nat) + (1 : Nat) + (1 : Nat) + (1 : Nat) + (1 : Nat) + (1 : Nat))
  (List.take ((1 : Nat) + (1 : Nat) + (1 : Nat) + (1 : Nat) + (1 : Nat)) (List.take ((1 : Nat) + (1 : Nat) + (1 : Nat) + (1 : Nat)) (List.take ((1 : Nat) + (1 : Nat) + (1 : Nat))
  (List.take ((1 : Nat) + (1 : Nat)) (List.take (1 : Nat) [Val.mk (1 : Int) (Env.v0 v) [] []] ++ [Val.mk (1 : Int) (Env.v1 v) [] []]) ++ [Val.mk (1 : Int) (Env.v2 v) [] []]) ++
  [Val.mk (1 : Int) (Env.v3 v) [] []]) ++ [Val.mk (1 : Int) (Env.v4 v) [] []]) ++ [Val.mk (1 : Int) (Env.v5 v) [] []]) ++ [Val.mk (1 : Int) (Env.v6 v) [] []]) ++ [Val.mk (1 : Int)
  (Env.v7 v) [] []]) ++ [Val.mk (1 : Int) (Env.v8 v) [] []]) ++ [Val.mk (1 : Int) (Env.v9 v) [] []]) ++ [Val.mk (1 : Int) (Env.v10 v) [] []]) ∧ (0 : Nat) ≤ (1 : Nat) + (1 : Nat) + (1
  : Nat) + (1 : Nat) + (1 : Nat) + (1 : Nat) + (1 : Nat) + (1 : Nat) + (1 : Nat) + (1 : Nat) + (1 : Nat) ∧ ((1 : Nat) + (1 : Nat) + (1 : Nat) + (1 : Nat) + (1 : Nat) + (1 : Nat) + (1
  : Nat) + (1 : Nat) + (1 : Nat) + (1 : Nat) + (1 : Nat) + (1 : Nat)) * (64 : Nat) ≤ (140737488355328 : Nat)) ∧ ((1 : Nat) + (1 : Nat) + (1 : Nat) + (1 : Nat) + (1 : Nat) + (1 : Nat)
  + (1 : Nat) + (1 : Nat) + (1 : Nat) + (1 : Nat) + (1 : Nat) + (1 : Nat) ≤ List.length (List.take ((1 : Nat) + (1 : Nat) + (1 : Nat) + (1 : Nat) + (1 : Nat) + (1 : Nat) + (1 : Nat)
  + (1 : Nat) + (1 : Nat) + (1 : Nat) + (1 : Nat)) (List.take ((1 : Nat) + (1 : Nat) + (1 : Nat) + (1 : Nat) + (1 : Nat) + (1 : Nat) + (1 : Nat) + (1 : Nat) + (1 : Nat) + (1 : Nat))
  (List.take ((1 : Nat) + (1 : Nat) + (1 : Nat) + (1 : Nat) + (1 : Nat) + (1 : Nat) + (1 : Nat) + (1 : Nat) + (1 : Nat)) (List.take ((1 : Nat) + (1 : Nat) + (1 : Nat) + (1 : Nat) +
  (1 : Nat) + (1 : Nat) + (1 : Nat) + (1 : Nat)) (List.take ((1 : Nat) + (1 : Nat) + (1 : Nat) + (1 : Nat) + (1 : Nat) + (1 : Nat) + (1 : Nat)) (List.take ((1 : Nat) + (1 : Nat) + (1
  : Nat) + (1 : Nat) + (1 : Nat) + (1 : Nat)) (List.take ((1 : Nat) + (1 : Nat) + (1 : Nat) + (1 : Nat) + (1 : Nat)) (List.take ((1 : Nat) + (1 : Nat) + (1 : Nat) + (1 : Nat))
  (List.take ((1 : Nat) + (1 : Nat) + (1 : Nat)) (List.take ((1 : Nat) + (1 : Nat)) (List.take (1 : Nat) [Val.mk (1 : Int) (Env.v0 v) [] []] ++ [Val.mk (1 : Int) (Env.v1 v) [] []])
  ++ [Val.mk (1 : Int) (Env.v2 v) [] []]) ++ [Val.mk (1 : Int) (Env.v3 v) [] []]) ++ [Val.mk (1 : Int) (Env.v4 v) [] []]) ++ [Val.mk (1 : Int) (Env.v5 v) [] []]) ++ [Val.mk (1 : Int)
  (Env.v6 v) [] []]) ++ [Val.mk (1 : Int) (Env.v7 v) [] []]) ++ [Val.mk (1 : Int) (Env.v8 v) [] []]) ++ [Val.mk (1 : Int) (Env.v9 v) [] []]) ++ [Val.mk (1 : Int) (Env.v10 v) [] []])
  ++ [Val.mk (1 : Int) (Env.v11 v) [] []]) ∧ (0 : Nat) ≤ (1 : Nat) + (1 : Nat) + (1 : Nat) + (1 : Nat) + (1 : Nat) + (1 : Nat) + (1 : Nat) + (1 : Nat) + (1 : Nat) + (1 : Nat) + (1 :
  Nat) + (1 : Nat) ∧ ((1 : Nat) + (1 : Nat) + (1 : Nat) + (1 : Nat) + (1 : Nat) + (1 : Nat) + (1 : Nat) + (1 : Nat) + (1 : Nat) + (1 : Nat) + (1 : Nat) + (1 : Nat) + (1 : Nat)) * (64
  : Nat) ≤ (140737488355328 : Nat)) ∧ ((1 : Nat) + (1 : Nat) + (1 : Nat) + (1 : Nat) + (1 : Nat) + (1 : Nat) + (1 : Nat) + (1 : Nat) + (1 : Nat) + (1 : Nat) + (1 : Nat) + (1 : Nat) +
  (1 : Nat) ≤ List.length (List.take ((1 : Nat) + (1 : Nat) + (1 : Nat) + (1 : Nat) + (1 : Nat) + (1 : Nat) + (1 : Nat) + (1 : Nat) + (1 : Nat) + (1 : Nat) + (1 : Nat) + (1 : Nat))
  (List.take ((1 : Nat) + (1 : Nat) + (1 : Nat) + (1 : Nat) + (1 : Nat) + (1 : Nat) + (1 : Nat) + (1 : Nat) + (1 : Nat) + (1 : Nat) + (1 : Nat)) (List.take ((1 : Nat) + (1 : Nat) +
  (1 : Nat) + (1 : Nat) + (1 : Nat) + (1 : Nat) + (1 : Nat) + (1 : Nat) + (1 : Nat) + (1 : Nat)) (List.take ((1 : Nat) + (1 : Nat) + (1 : Nat) + (1 : Nat) + (1 : Nat) + (1 : Nat) +
  (1 : Nat) + (1 : Nat) + (1 : Nat)) (List.take ((1 : Nat) + (1 : Nat) + (1 : Nat) + (1 : Nat) + (1 : Nat) + (1 : Nat) + (1 : Nat) + (1 : Nat)) (List.take ((1 : Nat) + (1 : Nat) + (1
  : Nat) + (1 : Nat) + (1 : Nat) + (1 : Nat) + (1 : Nat)) (List.take ((1 : Nat) + (1 : Nat) + (1 : Nat) + (1 : Nat) + (1 : Nat) + (1 : Nat)) (List.take ((1 : Nat) + (1 : Nat) + (1 :
  Nat) + (1 : Nat) + (1 : Nat)) (List.take ((1 : Nat) + (1 : Nat) + (1 : Nat) + (1 : Nat)) (List.take ((1 : Nat) + (1 : Nat) + (1 : Nat)) (List.take ((1 : Nat) + (1 : Nat))
  (List.take (1 : Nat) [Val.mk (1 : Int) (Env.v0 v) [] []] ++ [Val.mk (1 : Int) (Env.v1 v) [] []]) ++ [Val.mk (1 : Int) (Env.v2 v) [] []]) ++ [Val.mk (1 : Int) (Env.v3 v) [] []]) ++
  [Val.mk (1 : Int) (Env.v4 v) [] []]) ++ [Val.mk (1 : Int) (Env.v5 v) [] []]) ++ [Val.mk (1 : Int) (Env.v6 v) [] []]) ++ [Val.mk (1 : Int) (Env.v7 v) [] []]) ++ [Val.mk (1 : Int)
  (Env.v8 v) [] []]) ++ [Val.mk (1 : Int) (Env.v9 v) [] []]) ++ [Val.mk (1 : Int) (Env.v10 v) [] []]) ++ [Val.mk (1 : Int) (Env.v11 v) [] []]) ++ [Val.mk (1 : Int) (Env.v12 v) []
  []]) ∧ (0 : Nat) ≤ (1 : Nat) + (1 : Nat) + (1 : Nat) + (1 : Nat) + (1 : Nat) + (1 : Nat) + (1 : Nat) + (1 : Nat) + (1 : Nat) + (1 : Nat) + (1 : Nat) + (1 : Nat) + (1 : Nat) ∧ ((1 :
  Nat) + (1 : Nat) + (1 : Nat) + (1 : Nat) + (1 : Nat) + (1 : Nat) + (1 : Nat) + (1 : Nat) + (1 : Nat) + (1 : Nat) + (1 : Nat) + (1 : Nat) + (1 : Nat) + (1 : Nat)) * (64 : Nat) ≤
  (140737488355328 : Nat)) ∧ ((1 : Nat) + (1 : Nat) + (1 : Nat) + (1 : Nat) + (1 : Nat) + (1 : Nat) + (1 : Nat) + (1 : Nat) + (1 : Nat) + (1 : Nat) + (1 : Nat) + (1 : Nat) + (1 :
  Nat) + (1 : Nat) ≤ List.length (List.take ((1 : Nat) + (1 : Nat) + (1 : Nat) + (1 : Nat) + (1 : Nat) + (1 : Nat) + (1 : Nat) + (1 : Nat) + (1 : Nat) + (1 : Nat) + (1 : Nat) + (1 :
  Nat) + (1 : Nat)) (List.take ((1 : Nat) + (1 : Nat) + (1 : Nat) + (1 : Nat) + (1 : Nat) + (1 : Nat) + (1 : Nat) + (1 : Nat) + (1 : Nat) + (1 : Nat) + (1 : Nat) + (1 : Nat))
  (List.take ((1 : Nat) + (1 : Nat) + (1 : Nat) + (1 : Nat) + (1 : Nat) + (1 : Nat) + (1 : Nat) + (1 : Nat) + (1 : Nat) + (1 : Nat) + (1 : Nat)) (List.take ((1 : Nat) + (1 : Nat) +
  (1 : Nat) + (1 : Nat) + (1 : Nat) + (1 : Nat) + (1 : Nat) + (1 : Nat) + (1 : Nat) + (1 : Nat)) (List.take ((1 : Nat) + (1 : Nat) + (1 : Nat) + (1 : Nat) + (1 : Nat) + (1 : Nat) +
  (1 : Nat) + (1 : Nat) + (1 : Nat)) (List.take ((1 : Nat) + (1 : Nat) + (1 : Nat) + (1 : Nat) + (1 : Nat) + (1 : Nat) + (1 : Nat) + (1 : Nat)) (List.take ((1 : Nat) + (1 : Nat) + (1
  : Nat) + (1 : Nat) + (1 : Nat) + (1 : Nat) + (1 : Nat)) (List.take ((1 : Nat) + (1 : Nat) + (1 : Nat) + (1 : Nat) + (1 : Nat) + (1 : Nat)) (List.take ((1 : Nat) + (1 : Nat) + (1 :
  Nat) + (1 : Nat) + (1 : Nat)) (List.take ((1 : Nat) + (1 : Nat) + (1 : Nat) + (1 : Nat)) (List.take ((1 : Nat) + (1 : Nat) + (1 : Nat)) (List.take ((1 : Nat) + (1 : Nat))
  (List.take (1 : Nat) [Val.mk (1 : Int) (Env.v0 v) [] []] ++ [Val.mk (1 : Int) (Env.v1 v) [] []]) ++ [Val.mk (1 : Int) (Env.v2 v) [] []]) ++ [Val.mk (1 : Int) (Env.v3 v) [] []]) ++
  [Val.mk (1 : Int) (Env.v4 v) [] []]) ++ [Val.mk (1 : Int) (Env.v5 v) [] []]) ++ [Val.mk (1 : Int) (Env.v6 v) [] []]) ++ [Val.mk (1 : Int) (Env.v7 v) [] []]) ++ [Val.mk (1 : Int)
  (Env.v8 v) [] []]) ++ [Val.mk (1 : Int) (Env.v9 v) [] []]) ++ [Val.mk (1 : Int) (Env.v10 v) [] []]) ++ [Val.mk (1 : Int) (Env.v11 v) [] []]) ++ [Val.mk (1 : Int) (Env.v12 v) []
  []]) ++ [Val.mk (1 : Int) (Env.v13 v) [] []]) ∧ (0 : Nat) ≤ (1 : Nat) + (1 : Nat) + (1 : Nat) + (1 : Nat) + (1 : Nat) + (1 : Nat) + (1 : Nat) + (1 : Nat) + (1 : Nat) + (1 : Nat) +
  (1 : Nat) + (1 : Nat) + (1 : Nat) + (1 : Nat) ∧ ((1 : Nat) + (1 : Nat) + (1 : Nat) + (1 : Nat) + (1 : Nat) + (1 : Nat) + (1 : Nat) + (1 : Nat) + (1 : Nat) + (1 : Nat) + (1 : Nat) +
  (1 : Nat) + (1 : Nat) + (1 : Nat) + (1 : Nat)) * (64 : Nat) ≤ (140737488355328 : Nat)) ∧ ((1 : Nat) + (1 : Nat) + (1 : Nat) + (1 : Nat) + (1 : Nat) + (1 : Nat) + (1 : Nat) + (1 :
  Nat) + (1 : Nat) + (1 : Nat) + (1 : Nat) + (1 : Nat) + (1 : Nat) + (1 : Nat) + (1 : Nat) ≤ List.length (List.take ((1 : Nat) + (1 : Nat) + (1 : Nat) + (1 : Nat) + (1 : Nat) + (1 :
  Nat) + (1 : Nat) + (1 : Nat) + (1 : Nat) + (1 : Nat) + (1 : Nat) + (1 : Nat) + (1 : Nat) + (1 : Nat)) (List.take ((1 : Nat) + (1 : Nat) + (1 : Nat) + (1 : Nat) + (1 : Nat) + (1 :
  Nat) + (1 : Nat) + (1 : Nat) + (1 : Nat) + (1 : Nat) + (1 : Nat) + (1 : Nat) + (1 : Nat)) (List.take ((1 : Nat) + (1 : Nat) + (1 : Nat) + (1 : Nat) + (1 : Nat) + (1 : Nat) + (1 :
  Nat) + (1 : Nat) + (1 : Nat) + (1 : Nat) + (1 : Nat) + (1 : Nat)) (List.take ((1 : Nat) + (1 : Nat) + (1 : Nat) + (1 : Nat) + (1 : Nat) + (1 : Nat) + (1 : Nat) + (1 : Nat) + (1 :
  Nat) + (1 : Nat) + (1 : Nat)) (List.take ((1 : Nat) + (1 : Nat) + (1 : Nat) + (1 : Nat) + (1 : Nat) + (1 : Nat) + (1 : Nat) + (1 : Nat) + (1 : Nat) + (1 : Nat)) (List.take ((1 :
  Nat) + (1 : Nat) + (1 : Nat) + (1 : Nat) + (1 : Nat) + (1 : Nat) + (1 : Nat) + (1 : Nat) + (1 : Nat)) (List.take ((1 : Nat) + (1 : Nat) + (1 : Nat) + (1 : Nat) + (1 : Nat) + (1 :
  Nat) + (1 : Nat) + (1 : Nat)) (List.take ((1 : Nat) + (1 : Nat) + (1 : Nat) + (1 : Nat) + (1 : Nat) + (1 : Nat) + (1 : Nat)) (List.take ((1 : Nat) + (1 : Nat) + (1 : Nat) + (1 :
  Nat) + (1 : Nat) + (1 : Nat)) (List.take ((1 : Nat) + (1 : Nat) + (1 : Nat) + (1 : Nat) + (1 : Nat)) (List.take ((1 : Nat) + (1 : Nat) + (1 : Nat) + (1 : Nat)) (List.take ((1 :
  Nat) + (1 : Nat) + (1 : Nat)) (List.take ((1 : Nat) + (1 : Nat)) (List.take (1 : Nat) [Val.mk (1 : Int) (Env.v0 v) [] []] ++ [Val.mk (1 : Int) (Env.v1 v) [] []]) ++ [Val.mk (1 :
  Int) (Env.v2 v) [] []]) ++ [Val.mk (1 : Int) (Env.v3 v) [] []]) ++ [Val.mk (1 : Int) (Env.v4 v) [] []]) ++ [Val.mk (1 : Int) (Env.v5 v) [] []]) ++ [Val.mk (1 : Int) (Env.v6 v) []
  []]) ++ [Val.mk (1 : Int) (Env.v7 v) [] []]) ++ [Val.mk (1 : Int) (Env.v8 v) [] []]) ++ [Val.mk (1 : Int) (Env.v9 v) [] []]) ++ [Val.mk (1 : Int) (Env.v10 v) [] []]) ++ [Val.mk (1
  : Int) (Env.v11 v) [] []]) ++ [Val.mk (1 : Int) (Env.v12 v) [] []]) ++ [Val.mk (1 : Int) (Env.v13 v) [] []]) ++ [Val.mk (1 : Int) (Env.v14 v) [] []]) ∧ (0 : Nat) ≤ (1 : Nat) + (1 :
  Nat) + (1 : Nat) + (1 : Nat) + (1 : Nat) + (1 : Nat) + (1 : Nat) + (1 : Nat) + (1 : Nat) + (1 : Nat) + (1 : Nat) + (1 : Nat) + (1 : Nat) + (1 : Nat) + (1 : Nat) ∧ ((1 : Nat) + (1 :
  Nat) + (1 : Nat) + (1 : Nat) + (1 : Nat) + (1 : Nat) + (1 : Nat) + (1 : Nat) + (1 : Nat) + (1 : Nat) + (1 : Nat) + (1 : Nat) + (1 : Nat) + (1 : Nat) + (1 : Nat) + (1 : Nat)) * (64
  : Nat) ≤ (140737488355328 : Nat)) ∧ (0 : Nat) + ((1 : Nat) + (1 : Nat) + (1 : Nat) + (1 : Nat) + (1 : Nat) + (1 : Nat) + (1 : Nat) + (1 : Nat) + (1 : Nat) + (1 : Nat) + (1 : Nat) +
  (1 : Nat) + (1 : Nat) + (1 : Nat) + (1 : Nat) + (1 : Nat)) ≤ List.length (List.take ((1 : Nat) + (1 : Nat) + (1 : Nat) + (1 : Nat) + (1 : Nat) + (1 : Nat) + (1 : Nat) + (1 : Nat) +
  (1 : Nat) + (1 : Nat) + (1 : Nat) + (1 : Nat) + (1 : Nat) + (1 : Nat) + (1 : Nat)) (List.take ((1 : Nat) + (1 : Nat) + (1 : Nat) + (1 : Nat) + (1 : Nat) + (1 : Nat) + (1 : Nat) +
  (1 : Nat) + (1 : Nat) + (1 : Nat) + (1 : Nat) + (1 : Nat) + (1 : Nat) + (1 : Nat)) (List.take ((1 : Nat) + (1 : Nat) + (1 : Nat) + (1 : Nat) + (1 : Nat) + (1 : Nat) + (1 : Nat) +
  (1 : Nat) + (1 : Nat) + (1 : Nat) + (1 : Nat) + (1 : Nat) + (1 : Nat)) (List.take ((1 : Nat) + (1 : Nat) + (1 : Nat) + (1 : Nat) + (1 : Nat) + (1 : Nat) + (1 : Nat) + (1 : Nat) +
  (1 : Nat) + (1 : Nat) + (1 : Nat) + (1 : Nat)) (List.take ((1 : Nat) + (1 : Nat) + (1 : Nat) + (1 : Nat) + (1 : Nat) + (1 : Nat) + (1 : Nat) + (1 : Nat) + (1 : Nat) + (1 : Nat) +
  (1 : Nat)) (List.take ((1 : Nat) + (1 : Nat) + (1 : Nat) + (1 : Nat) + (1 : Nat) + (1 : Nat) + (1 : Nat) + (1 : Nat) + (1 : Nat) + (1 : Nat)) (List.take ((1 : Nat) + (1 : Nat) + (1
  : Nat) + (1 : Nat) + (1 : Nat) + (1 : Nat) + (1 : Nat) + (1 : Nat) + (1 : Nat)) (List.take ((1 : Nat) + (1 : Nat) + (1 : Nat) + (1 : Nat) + (1 : Nat) + (1 : Nat) + (1 : Nat) + (1 :
  Nat)) (List.take ((1 : Nat) + (1 : Nat) + (1 : Nat) + (1 : Nat) + (1 : Nat) + (1 : Nat) + (1 : Nat)) (List.take ((1 : Nat) + (1 : Nat) + (1 : Nat) + (1 : Nat) + (1 : Nat) + (1 :
  Nat)) (List.take ((1 : Nat) + (1 : Nat) + (1 : Nat) + (1 : Nat) + (1 : Nat)) (List.take ((1 : Nat) + (1 : Nat) + (1 : Nat) + (1 : Nat)) (List.take ((1 : Nat) + (1 : Nat) + (1 :
  Nat)) (List.take ((1 : Nat) + (1 : Nat)) (List.take (1 : Nat) [Val.mk (1 : Int) (Env.v0 v) [] []] ++ [Val.mk (1 : Int) (Env.v1 v) [] []]) ++ [Val.mk (1 : Int) (Env.v2 v) [] []]) ++
  [Val.mk (1 : Int) (Env.v3 v) [] []]) ++ [Val.mk (1 : Int) (Env.v4 v) [] []]) ++ [Val.mk (1 : Int) (Env.v5 v) [] []]) ++ [Val.mk (1 : Int) (Env.v6 v) [] []]) ++ [Val.mk (1 : Int)
  (Env.v7 v) [] []]) ++ [Val.mk (1 : Int) (Env.v8 v) [] []]) ++ [Val.mk (1 : Int) (Env.v9 v) [] []]) ++ [Val.mk (1 : Int) (Env.v10 v) [] []]) ++ [Val.mk (1 : Int) (Env.v11 v) [] []])
  ++ [Val.mk (1 : Int) (Env.v12 v) [] []]) ++ [Val.mk (1 : Int) (Env.v13 v) [] []]) ++ [Val.mk (1 : Int) (Env.v14 v) [] []]) ++ [Val.mk (1 : Int) (Env.v15 v) [] []]) ∧ ((0 : Nat) +
  (1 : Nat) + (1 : Nat) + (1 : Nat) ≤ (4 : Nat) ∧ OkV (Val.mk (3 : Int) (0 : Int) [] [Val.mk (1 : Int) (Env.has v) [] [], Val.mk (3 : Int) (0 : Int) [] (List.take ((1 : Nat) + (1 :
  Nat) + (1 : Nat) + (1 : Nat) + (1 : Nat) + (1 : Nat) + (1 : Nat) + (1 : Nat) + (1 : Nat) + (1 : Nat) + (1 : Nat) + (1 : Nat) + (1 : Nat) + (1 : Nat) + (1 : Nat) + (1 : Nat))
  (List.drop (0 : Nat) (List.take ((1 : Nat) + (1 : Nat) + (1 : Nat) + (1 : Nat) + (1 : Nat) + (1 : Nat) + (1 : Nat) + (1 : Nat) + (1 : Nat) + (1 : Nat) + (1 : Nat) + (1 : Nat) + (1
  : Nat) + (1 : Nat) + (1 : Nat)) (List.take ((1 : Nat) + (1 : Nat) + (1 : Nat) + (1 : Nat) + (1 : Nat) + (1 : Nat) + (1 : Nat) + (1 : Nat) + (1 : Nat) + (1 : Nat) + (1 : Nat) + (1 :
  Nat) + (1 : Nat) + (1 : Nat)) (List.take ((1 : Nat) + (1 : Nat) + (1 : Nat) + (1 : Nat) + (1 : Nat) + (1 : Nat) + (1 : Nat) + (1 : Nat) + (1 : Nat) + (1 : Nat) + (1 : Nat) + (1 :
  Nat) + (1 : Nat)) (List.take ((1 : Nat) + (1 : Nat) + (1 : Nat) + (1 : Nat) + (1 : Nat) + (1 : Nat) + (1 : Nat) + (1 : Nat) + (1 : Nat) + (1 : Nat) + (1 : Nat) + (1 : Nat))
  (List.take ((1 : Nat) + (1 : Nat) + (1 : Nat) + (1 : Nat) + (1 : Nat) + (1 : Nat) + (1 : Nat) + (1 : Nat) + (1 : Nat) + (1 : Nat) + (1 : Nat)) (List.take ((1 : Nat) + (1 : Nat) +
  (1 : Nat) + (1 : Nat) + (1 : Nat) + (1 : Nat) + (1 : Nat) + (1 : Nat) + (1 : Nat) + (1 : Nat)) (List.take ((1 : Nat) + (1 : Nat) + (1 : Nat) + (1 : Nat) + (1 : Nat) + (1 : Nat) +
  (1 : Nat) + (1 : Nat) + (1 : Nat)) (List.take ((1 : Nat) + (1 : Nat) + (1 : Nat) + (1 : Nat) + (1 : Nat) + (1 : Nat) + (1 : Nat) + (1 : Nat)) (List.take ((1 : Nat) + (1 : Nat) + (1
  : Nat) + (1 : Nat) + (1 : Nat) + (1 : Nat) + (1 : Nat)) (List.take ((1 : Nat) + (1 : Nat) + (1 : Nat) + (1 : Nat) + (1 : Nat) + (1 : Nat)) (List.take ((1 : Nat) + (1 : Nat) + (1 :
  Nat) + (1 : Nat) + (1 : Nat)) (List.take ((1 : Nat) + (1 : Nat) + (1 : Nat) + (1 : Nat)) (List.take ((1 : Nat) + (1 : Nat) + (1 : Nat)) (List.take ((1 : Nat) + (1 : Nat))
  (List.take (1 : Nat) [Val.mk (1 : Int) (Env.v0 v) [] []] ++ [Val.mk (1 : Int) (Env.v1 v) [] []]) ++ [Val.mk (1 : Int) (Env.v2 v) [] []]) ++ [Val.mk (1 : Int) (Env.v3 v) [] []]) ++
  [Val.mk (1 : Int) (Env.v4 v) [] []]) ++ [Val.mk (1 : Int) (Env.v5 v) [] []]) ++ [Val.mk (1 : Int) (Env.v6 v) [] []]) ++ [Val.mk (1 : Int) (Env.v7 v) [] []]) ++ [Val.mk (1 : Int)
  (Env.v8 v) [] []]) ++ [Val.mk (1 : Int) (Env.v9 v) [] []]) ++ [Val.mk (1 : Int) (Env.v10 v) [] []]) ++ [Val.mk (1 : Int) (Env.v11 v) [] []]) ++ [Val.mk (1 : Int) (Env.v12 v) []
  []]) ++ [Val.mk (1 : Int) (Env.v13 v) [] []]) ++ [Val.mk (1 : Int) (Env.v14 v) [] []]) ++ [Val.mk (1 : Int) (Env.v15 v) [] []])))])) ∧ ∀ (y : List Int), y = hashF ((0 : Nat) + (1 :
  Nat) + (1 : Nat)) (Val.mk (3 : Int) (0 : Int) [] [Val.mk (1 : Int) (Env.has v) [] [], Val.mk (3 : Int) (0 : Int) [] (List.take ((1 : Nat) + (1 : Nat) + (1 : Nat) + (1 : Nat) + (1 :
  Nat) + (1 : Nat) + (1 : Nat) + (1 : Nat) + (1 : Nat) + (1 : Nat) + (1 : Nat) + (1 : Nat) + (1 : Nat) + (1 : Nat) + (1 : Nat) + (1 : Nat)) (List.drop (0 : Nat) (List.take ((1 : Nat)
  + (1 : Nat) + (1 : Nat) + (1 : Nat) + (1 : Nat) + (1 : Nat) + (1 : Nat) + (1 : Nat) + (1 : Nat) + (1 : Nat) + (1 : Nat) + (1 : Nat) + (1 : Nat) + (1 : Nat) + (1 : Nat)) (List.take
  ((1 : Nat) + (1 : Nat) + (1 : Nat) + (1 : Nat) + (1 : Nat) + (1 : Nat) + (1 : Nat) + (1 : Nat) + (1 : Nat) + (1 : Nat) + (1 : Nat) + (1 : Nat) + (1 : Nat) + (1 : Nat)) (List.take
  ((1 : Nat) + (1 : Nat) + (1 : Nat) + (1 : Nat) + (1 : Nat) + (1 : Nat) + (1 : Nat) + (1 : Nat) + (1 : Nat) + (1 : Nat) + (1 : Nat) + (1 : Nat) + (1 : Nat)) (List.take ((1 : Nat) +
  (1 : Nat) + (1 : Nat) + (1 : Nat) + (1 : Nat) + (1 : Nat) + (1 : Nat) + (1 : Nat) + (1 : Nat) + (1 : Nat) + (1 : Nat) + (1 : Nat)) (List.take ((1 : Nat) + (1 : Nat) + (1 : Nat) +
  (1 : Nat) + (1 : Nat) + (1 : Nat) + (1 : Nat) + (1 : Nat) + (1 : Nat) + (1 : Nat) + (1 : Nat)) (List.take ((1 : Nat) + (1 : Nat) + (1 : Nat) + (1 : Nat) + (1 : Nat) + (1 : Nat) +
  (1 : Nat) + (1 : Nat) + (1 : Nat) + (1 : Nat)) (List.take ((1 : Nat) + (1 : Nat) + (1 : Nat) + (1 : Nat) + (1 : Nat) + (1 : Nat) + (1 : Nat) + (1 : Nat) + (1 : Nat)) (List.take ((1
  : Nat) + (1 : Nat) + (1 : Nat) + (1 : Nat) + (1 : Nat) + (1 : Nat) + (1 : Nat) + (1 : Nat)) (List.take ((1 : Nat) + (1 : Nat) + (1 : Nat) + (1 : Nat) + (1 : Nat) + (1 : Nat) + (1 :
  Nat)) (List.take ((1 : Nat) + (1 : Nat) + (1 : Nat) + (1 : Nat) + (1 : Nat) + (1 : Nat)) (List.take ((1 : Nat) + (1 : Nat) + (1 : Nat) + (1 : Nat) + (1 : Nat)) (List.take ((1 :
  Nat) + (1 : Nat) + (1 : Nat) + (1 : Nat)) (List.take ((1 : Nat) + (1 : Nat) + (1 : Nat)) (List.take ((1 : Nat) + (1 : Nat)) (List.take (1 : Nat) [Val.mk (1 : Int) (Env.v0 v) [] []]
  ++ [Val.mk (1 : Int) (Env.v1 v) [] []]) ++ [Val.mk (1 : Int) (Env.v2 v) [] []]) ++ [Val.mk (1 : Int) (Env.v3 v) [] []]) ++ [Val.mk (1 : Int) (Env.v4 v) [] []]) ++ [Val.mk (1 : Int)
  (Env.v5 v) [] []]) ++ [Val.mk (1 : Int) (Env.v6 v) [] []]) ++ [Val.mk (1 : Int) (Env.v7 v) [] []]) ++ [Val.mk (1 : Int) (Env.v8 v) [] []]) ++ [Val.mk (1 : Int) (Env.v9 v) [] []])
  ++ [Val.mk (1 : Int) (Env.v10 v) [] []]) ++ [Val.mk (1 : Int) (Env.v11 v) [] []]) ++ [Val.mk (1 : Int) (Env.v12 v) [] []]) ++ [Val.mk (1 : Int) (Env.v13 v) [] []]) ++ [Val.mk (1 :
  Int) (Env.v14 v) [] []]) ++ [Val.mk (1 : Int) (Env.v15 v) [] []])))]) → List.getD y (0 : Nat) (0 : Int) = List.getD z (0 : Nat) (0 : Int) ∧ List.getD y (1 : Nat) (0 : Int) =
  List.getD z (1 : Nat) (0 : Int) ∧ List.getD y (2 : Nat) (0 : Int) = List.getD z (2 : Nat) (0 : Int) ∧ List.getD y (3 : Nat) (0 : Int) = List.getD z (3 : Nat) (0 : Int) ∧ List.getD
  y (4 : Nat) (0 : Int) = List.getD z (4 : Nat) (0 : Int) ∧ List.getD y (5 : Nat) (0 : Int) = List.getD z (5 : Nat) (0 : Int) ∧ List.getD y (6 : Nat) (0 : Int) = List.getD z (6 :
  Nat) (0 : Int) ∧ List.getD y (7 : Nat) (0 : Int) = List.getD z (7 : Nat) (0 : Int) ∧ List.getD y (8 : Nat) (0 : Int) = List.getD z (8 : Nat) (0 : Int) ∧ List.getD y (9 : Nat) (0 :
  Int) = List.getD z (9 : Nat) (0 : Int) ∧ List.getD y (10 : Nat) (0 : Int) = List.getD z (10 : Nat) (0 : Int) ∧ List.getD y (11 : Nat) (0 : Int) = List.getD z (11 : Nat) (0 : Int) ∧
  List.getD y (12 : Nat) (0 : Int) = List.getD z (12 : Nat) (0 : Int) ∧ List.getD y (13 : Nat) (0 : Int) = List.getD z (13 : Nat) (0 : Int) ∧ List.getD y (14 : Nat) (0 : Int) =
  List.getD z (14 : Nat) (0 : Int) ∧ List.getD y (15 : Nat) (0 : Int) = List.getD z (15 : Nat) (0 : Int) ∧ List.getD y (16 : Nat) (0 : Int) = List.getD z (16 : Nat) (0 : Int) ∧
  List.getD y (17 : Nat) (0 : Int) = List.getD z (17 : Nat) (0 : Int) ∧ List.getD y (18 : Nat) (0 : Int) = List.getD z (18 : Nat) (0 : Int) ∧ List.getD y (19 : Nat) (0 : Int) =
  List.getD z (19 : Nat) (0 : Int) ∧ List.getD y (20 : Nat) (0 : Int) = List.getD z (20 : Nat) (0 : Int) ∧ List.getD y (21 : Nat) (0 : Int) = List.getD z (21 : Nat) (0 : Int) ∧
  List.getD y (22 : Nat) (0 : Int) = List.getD z (22 : Nat) (0 : Int) ∧ List.getD y (23 : Nat) (0 : Int) = List.getD z (23 : Nat) (0 : Int) ∧ List.getD y (24 : Nat) (0 : Int) =
  List.getD z (24 : Nat) (0 : Int) ∧ List.getD y (25 : Nat) (0 : Int) = List.getD z (25 : Nat) (0 : Int) ∧ List.getD y (26 : Nat) (0 : Int) = List.getD z (26 : Nat) (0 : Int) ∧
  List.getD y (27 : Nat) (0 : Int) = List.getD z (27 : Nat) (0 : Int) ∧ List.getD y (28 : Nat) (0 : Int) = List.getD z (28 : Nat) (0 : Int) ∧ List.getD y (29 : Nat) (0 : Int) =
  List.getD z (29 : Nat) (0 : Int) ∧ List.getD y (30 : Nat) (0 : Int) = List.getD z (30 : Nat) (0 : Int) ∧ List.getD y (31 : Nat) (0 : Int) = List.getD z (31 : Nat) (0 : Int) ∧ True
  ) := by kernel_rfl
--@end
def inputsV (v : Env) : Val := lisV [numV v.has, lisV (v.v.map numV)]
noncomputable def inputsF (v : Env) : List Int := hashF 2 (inputsV v)
theorem okV_inputs (v : Env) : OkV (inputsV v) := ⟨by simp [inputsV, lisV, numV, Env.v, Val.sz, szL]⟩
theorem inputs_pure (v : Env) : PureC E2 39 [envV v] (dig32 (inputsF v)) := by
  refine pure_of_call E2_ok (callOk_of E2_ok Finp_ok 400) ?_
  rw [cond_inputs]
  refine ⟨of_decide_eq_true (by kernel_rfl), of_decide_eq_true (by kernel_rfl), of_decide_eq_true (by kernel_rfl), of_decide_eq_true (by kernel_rfl), of_decide_eq_true (by kernel_rfl), of_decide_eq_true (by kernel_rfl), of_decide_eq_true (by kernel_rfl), of_decide_eq_true (by kernel_rfl), of_decide_eq_true (by kernel_rfl), of_decide_eq_true (by kernel_rfl), of_decide_eq_true (by kernel_rfl), of_decide_eq_true (by kernel_rfl), of_decide_eq_true (by kernel_rfl), of_decide_eq_true (by kernel_rfl), of_decide_eq_true (by kernel_rfl), of_decide_eq_true (by kernel_rfl), ⟨by omega, okV_inputs v⟩, fun y hy => ?_⟩
  have e : y = inputsF v := hy.trans (by kernel_rfl)
  rw [e]
  exact ⟨rfl, rfl, rfl, rfl, rfl, rfl, rfl, rfl, rfl, rfl, rfl, rfl, rfl, rfl, rfl, rfl, rfl, rfl, rfl, rfl, rfl, rfl, rfl, rfl, rfl, rfl, rfl, rfl, rfl, rfl, rfl, rfl, trivial⟩
noncomputable def Sinp : Sum thy := sumPY (.cons dEnv2 .nil) (fun _ => True) (fun x => inputsF x.1) dig32
theorem Sinp_ok : SumOk E2 39 Sinp := sumPY_ok E2_ok (good_of (f := 39) rfl) fun x _ => inputs_pure x.1
noncomputable def Fwho : Fns thy := addS (addS (addS (addS F0 35 Shash) 38 Sprg) 39 Sinp) 34 Sonto
theorem Fwho_ok : FnsOk E2 Fwho := addS_ok (addS_ok (addS_ok (addS_ok F0_ok2 Shash_ok) Sprg_ok) Sinp_ok) Sonto_ok
--@cond whole | 23 | E2:Fwho | 400 | (c : List Ins) (v : Env) (o : Opn) | [.psl Th.ins c false, envV v, opnV o] | (z : List Int) | dig32 z
theorem cond_whole (c : List Ins) (v : Env) (o : Opn) (z : List Int) : callF E2 Fwho (vc E2 Fwho 400) 23 [.psl Th.ins c false, envV v, opnV o] hp0 0 (fun r => ret E2 (patch hp0 0 r) r.v (dig32 z)) = (
  List.length c ≤ (1000000 : Nat) ∧ ∀ (y : List Int), y = progF c → True ∧ ∀ (y_1 : List Int), y_1 = inputsF v → List.length (Opn.top o) ≤ (1000000 : Nat) ∧ ∀ (y_2 : List Int), y_2 =
  ontoF [List.getD (Opn.rest o) (0 : Nat) (0 : Int), List.getD (Opn.rest o) (1 : Nat) (0 : Int), List.getD (Opn.rest o) (2 : Nat) (0 : Int), List.getD (Opn.rest o) (3 : Nat) (0 :
  Int), List.getD (Opn.rest o) (4 : Nat) (0 : Int), List.getD (Opn.rest o) (5 : Nat) (0 : Int), List.getD (Opn.rest o) (6 : Nat) (0 : Int), List.getD (Opn.rest o) (7 : Nat) (0 :
  Int), List.getD (Opn.rest o) (8 : Nat) (0 : Int), List.getD (Opn.rest o) (9 : Nat) (0 : Int), List.getD (Opn.rest o) (10 : Nat) (0 : Int), List.getD (Opn.rest o) (11 : Nat) (0 :
  Int), List.getD (Opn.rest o) (12 : Nat) (0 : Int), List.getD (Opn.rest o) (13 : Nat) (0 : Int), List.getD (Opn.rest o) (14 : Nat) (0 : Int), List.getD (Opn.rest o) (15 : Nat) (0 :
  Int), List.getD (Opn.rest o) (16 : Nat) (0 : Int), List.getD (Opn.rest o) (17 : Nat) (0 : Int), List.getD (Opn.rest o) (18 : Nat) (0 : Int), List.getD (Opn.rest o) (19 : Nat) (0 :
  Int), List.getD (Opn.rest o) (20 : Nat) (0 : Int), List.getD (Opn.rest o) (21 : Nat) (0 : Int), List.getD (Opn.rest o) (22 : Nat) (0 : Int), List.getD (Opn.rest o) (23 : Nat) (0 :
  Int), List.getD (Opn.rest o) (24 : Nat) (0 : Int), List.getD (Opn.rest o) (25 : Nat) (0 : Int), List.getD (Opn.rest o) (26 : Nat) (0 : Int), List.getD (Opn.rest o) (27 : Nat) (0 :
  Int), List.getD (Opn.rest o) (28 : Nat) (0 : Int), List.getD (Opn.rest o) (29 : Nat) (0 : Int), List.getD (Opn.rest o) (30 : Nat) (0 : Int), List.getD (Opn.rest o) (31 : Nat) (0 :
  Int)] (Opn.top o) → ((0 : Nat) + (1 : Nat) + (1 : Nat) + (1 : Nat) + (1 : Nat) ≤ (4 : Nat) ∧ OkV (Val.mk (3 : Int) (0 : Int) [] [Val.mk (2 : Int) (0 : Int) [List.getD y (0 : Nat)
  (0 : Int), List.getD y (1 : Nat) (0 : Int), List.getD y (2 : Nat) (0 : Int), List.getD y (3 : Nat) (0 : Int), List.getD y (4 : Nat) (0 : Int), List.getD y (5 : Nat) (0 : Int),
  List.getD y (6 : Nat) (0 : Int), List.getD y (7 : Nat) (0 : Int), List.getD y (8 : Nat) (0 : Int), List.getD y (9 : Nat) (0 : Int), List.getD y (10 : Nat) (0 : Int), List.getD y
  (11 : Nat) (0 : Int), List.getD y (12 : Nat) (0 : Int), List.getD y (13 : Nat) (0 : Int), List.getD y (14 : Nat) (0 : Int), List.getD y (15 : Nat) (0 : Int), List.getD y (16 : Nat)
  (0 : Int), List.getD y (17 : Nat) (0 : Int), List.getD y (18 : Nat) (0 : Int), List.getD y (19 : Nat) (0 : Int), List.getD y (20 : Nat) (0 : Int), List.getD y (21 : Nat) (0 : Int),
  List.getD y (22 : Nat) (0 : Int), List.getD y (23 : Nat) (0 : Int), List.getD y (24 : Nat) (0 : Int), List.getD y (25 : Nat) (0 : Int), List.getD y (26 : Nat) (0 : Int), List.getD
  y (27 : Nat) (0 : Int), List.getD y (28 : Nat) (0 : Int), List.getD y (29 : Nat) (0 : Int), List.getD y (30 : Nat) (0 : Int), List.getD y (31 : Nat) (0 : Int)] [], Val.mk (2 : Int)
  (0 : Int) [List.getD y_1 (0 : Nat) (0 : Int), List.getD y_1 (1 : Nat) (0 : Int), List.getD y_1 (2 : Nat) (0 : Int), List.getD y_1 (3 : Nat) (0 : Int), List.getD y_1 (4 : Nat) (0 :
  Int), List.getD y_1 (5 : Nat) (0 : Int), List.getD y_1 (6 : Nat) (0 : Int), List.getD y_1 (7 : Nat) (0 : Int), List.getD y_1 (8 : Nat) (0 : Int), List.getD y_1 (9 : Nat) (0 : Int),
  List.getD y_1 (10 : Nat) (0 : Int), List.getD y_1 (11 : Nat) (0 : Int), List.getD y_1 (12 : Nat) (0 : Int), List.getD y_1 (13 : Nat) (0 : Int), List.getD y_1 (14 : Nat) (0 : Int),
  List.getD y_1 (15 : Nat) (0 : Int), List.getD y_1 (16 : Nat) (0 : Int), List.getD y_1 (17 : Nat) (0 : Int), List.getD y_1 (18 : Nat) (0 : Int), List.getD y_1 (19 : Nat) (0 : Int),
  List.getD y_1 (20 : Nat) (0 : Int), List.getD y_1 (21 : Nat) (0 : Int), List.getD y_1 (22 : Nat) (0 : Int), List.getD y_1 (23 : Nat) (0 : Int), List.getD y_1 (24 : Nat) (0 : Int),
  List.getD y_1 (25 : Nat) (0 : Int), List.getD y_1 (26 : Nat) (0 : Int), List.getD y_1 (27 : Nat) (0 : Int), List.getD y_1 (28 : Nat) (0 : Int), List.getD y_1 (29 : Nat) (0 : Int),
  List.getD y_1 (30 : Nat) (0 : Int), List.getD y_1 (31 : Nat) (0 : Int)] [], Val.mk (1 : Int) (Opn.pc o) [] [], Val.mk (1 : Int) (Opn.fuel o) [] [], Val.mk (1 : Int) (Opn.status o)
  [] [], Val.mk (1 : Int) (Opn.clause o) [] [], Val.mk (1 : Int) (wr IntKind.i64 (Opn.depth o + (↑(List.length (Opn.top o)) : Int))) [] [], Val.mk (2 : Int) (0 : Int) [List.getD y_2
  (0 : Nat) (0 : Int), List.getD y_2 (1 : Nat) (0 : Int), List.getD y_2 (2 : Nat) (0 : Int), List.getD y_2 (3 : Nat) (0 : Int), List.getD y_2 (4 : Nat) (0 : Int), List.getD y_2 (5 :
  Nat) (0 : Int), List.getD y_2 (6 : Nat) (0 : Int), List.getD y_2 (7 : Nat) (0 : Int), List.getD y_2 (8 : Nat) (0 : Int), List.getD y_2 (9 : Nat) (0 : Int), List.getD y_2 (10 : Nat)
  (0 : Int), List.getD y_2 (11 : Nat) (0 : Int), List.getD y_2 (12 : Nat) (0 : Int), List.getD y_2 (13 : Nat) (0 : Int), List.getD y_2 (14 : Nat) (0 : Int), List.getD y_2 (15 : Nat)
  (0 : Int), List.getD y_2 (16 : Nat) (0 : Int), List.getD y_2 (17 : Nat) (0 : Int), List.getD y_2 (18 : Nat) (0 : Int), List.getD y_2 (19 : Nat) (0 : Int), List.getD y_2 (20 : Nat)
  (0 : Int), List.getD y_2 (21 : Nat) (0 : Int), List.getD y_2 (22 : Nat) (0 : Int), List.getD y_2 (23 : Nat) (0 : Int), List.getD y_2 (24 : Nat) (0 : Int), List.getD y_2 (25 : Nat)
  (0 : Int), List.getD y_2 (26 : Nat) (0 : Int), List.getD y_2 (27 : Nat) (0 : Int), List.getD y_2 (28 : Nat) (0 : Int), List.getD y_2 (29 : Nat) (0 : Int), List.getD y_2 (30 : Nat)
  (0 : Int), List.getD y_2 (31 : Nat) (0 : Int)] []])) ∧ ∀ (y_3 : List Int), y_3 = hashF ((0 : Nat) + (1 : Nat) + (1 : Nat) + (1 : Nat)) (Val.mk (3 : Int) (0 : Int) [] [Val.mk (2 :
  Int) (0 : Int) [List.getD y (0 : Nat) (0 : Int), List.getD y (1 : Nat) (0 : Int), List.getD y (2 : Nat) (0 : Int), List.getD y (3 : Nat) (0 : Int), List.getD y (4 : Nat) (0 : Int),
  List.getD y (5 : Nat) (0 : Int), List.getD y (6 : Nat) (0 : Int), List.getD y (7 : Nat) (0 : Int), List.getD y (8 : Nat) (0 : Int), List.getD y (9 : Nat) (0 : Int), List.getD y (10
  : Nat) (0 : Int), List.getD y (11 : Nat) (0 : Int), List.getD y (12 : Nat) (0 : Int), List.getD y (13 : Nat) (0 : Int), List.getD y (14 : Nat) (0 : Int), List.getD y (15 : Nat) (0
  : Int), List.getD y (16 : Nat) (0 : Int), List.getD y (17 : Nat) (0 : Int), List.getD y (18 : Nat) (0 : Int), List.getD y (19 : Nat) (0 : Int), List.getD y (20 : Nat) (0 : Int),
  List.getD y (21 : Nat) (0 : Int), List.getD y (22 : Nat) (0 : Int), List.getD y (23 : Nat) (0 : Int), List.getD y (24 : Nat) (0 : Int), List.getD y (25 : Nat) (0 : Int), List.getD
  y (26 : Nat) (0 : Int), List.getD y (27 : Nat) (0 : Int), List.getD y (28 : Nat) (0 : Int), List.getD y (29 : Nat) (0 : Int), List.getD y (30 : Nat) (0 : Int), List.getD y (31 :
  Nat) (0 : Int)] [], Val.mk (2 : Int) (0 : Int) [List.getD y_1 (0 : Nat) (0 : Int), List.getD y_1 (1 : Nat) (0 : Int), List.getD y_1 (2 : Nat) (0 : Int), List.getD y_1 (3 : Nat) (0
  : Int), List.getD y_1 (4 : Nat) (0 : Int), List.getD y_1 (5 : Nat) (0 : Int), List.getD y_1 (6 : Nat) (0 : Int), List.getD y_1 (7 : Nat) (0 : Int), List.getD y_1 (8 : Nat) (0 :
  Int), List.getD y_1 (9 : Nat) (0 : Int), List.getD y_1 (10 : Nat) (0 : Int), List.getD y_1 (11 : Nat) (0 : Int), List.getD y_1 (12 : Nat) (0 : Int), List.getD y_1 (13 : Nat) (0 :
  Int), List.getD y_1 (14 : Nat) (0 : Int), List.getD y_1 (15 : Nat) (0 : Int), List.getD y_1 (16 : Nat) (0 : Int), List.getD y_1 (17 : Nat) (0 : Int), List.getD y_1 (18 : Nat) (0 :
  Int), List.getD y_1 (19 : Nat) (0 : Int), List.getD y_1 (20 : Nat) (0 : Int), List.getD y_1 (21 : Nat) (0 : Int), List.getD y_1 (22 : Nat) (0 : Int), List.getD y_1 (23 : Nat) (0 :
  Int), List.getD y_1 (24 : Nat) (0 : Int), List.getD y_1 (25 : Nat) (0 : Int), List.getD y_1 (26 : Nat) (0 : Int), List.getD y_1 (27 : Nat) (0 : Int), List.getD y_1 (28 : Nat) (0 :
  Int), List.getD y_1 (29 : Nat) (0 : Int), List.getD y_1 (30 : Nat) (0 : Int), List.getD y_1 (31 : Nat) (0 : Int)] [], Val.mk (1 : Int) (Opn.pc o) [] [], Val.mk (1 : Int) (Opn.fuel
  o) [] [], Val.mk (1 : Int) (Opn.status o) [] [], Val.mk (1 : Int) (Opn.clause o) [] [], Val.mk (1 : Int) (wr IntKind.i64 (Opn.depth o + (↑(List.length (Opn.top o)) : Int))) [] [],
  Val.mk (2 : Int) (0 : Int) [List.getD y_2 (0 : Nat) (0 : Int), List.getD y_2 (1 : Nat) (0 : Int), List.getD y_2 (2 : Nat) (0 : Int), List.getD y_2 (3 : Nat) (0 : Int), List.getD
  y_2 (4 : Nat) (0 : Int), List.getD y_2 (5 : Nat) (0 : Int), List.getD y_2 (6 : Nat) (0 : Int), List.getD y_2 (7 : Nat) (0 : Int), List.getD y_2 (8 : Nat) (0 : Int), List.getD y_2
  (9 : Nat) (0 : Int), List.getD y_2 (10 : Nat) (0 : Int), List.getD y_2 (11 : Nat) (0 : Int), List.getD y_2 (12 : Nat) (0 : Int), List.getD y_2 (13 : Nat) (0 : Int), List.getD y_2
  (14 : Nat) (0 : Int), List.getD y_2 (15 : Nat) (0 : Int), List.getD y_2 (16 : Nat) (0 : Int), List.getD y_2 (17 : Nat) (0 : Int), List.getD y_2 (18 : Nat) (0 : Int), List.getD y_2
  (19 : Nat) (0 : Int), List.getD y_2 (20 : Nat) (0 : Int), List.getD y_2 (21 : Nat) (0 : Int), List.getD y_2 (22 : Nat) (0 : Int), List.getD y_2 (23 : Nat) (0 : Int), List.getD y_2
  (24 : Nat) (0 : Int), List.getD y_2 (25 : Nat) (0 : Int), List.getD y_2 (26 : Nat) (0 : Int), List.getD y_2 (27 : Nat) (0 : Int), List.getD y_2 (28 : Nat) (0 : Int), List.getD y_2
  (29 : Nat) (0 : Int), List.getD y_2 (30 : Nat) (0 : Int), List.getD y_2 (31 : Nat) (0 : Int)] []]) → List.getD y_3 (0 : Nat) (0 : Int) = List.getD z (0 : Nat) (0 : Int) ∧ List.getD
  y_3 (1 : Nat) (0 : Int) = List.getD z (1 : Nat) (0 : Int) ∧ List.getD y_3 (2 : Nat) (0 : Int) = List.getD z (2 : Nat) (0 : Int) ∧ List.getD y_3 (3 : Nat) (0 : Int) = List.getD z (3
  : Nat) (0 : Int) ∧ List.getD y_3 (4 : Nat) (0 : Int) = List.getD z (4 : Nat) (0 : Int) ∧ List.getD y_3 (5 : Nat) (0 : Int) = List.getD z (5 : Nat) (0 : Int) ∧ List.getD y_3 (6 :
  Nat) (0 : Int) = List.getD z (6 : Nat) (0 : Int) ∧ List.getD y_3 (7 : Nat) (0 : Int) = List.getD z (7 : Nat) (0 : Int) ∧ List.getD y_3 (8 : Nat) (0 : Int) = List.getD z (8 : Nat)
  (0 : Int) ∧ List.getD y_3 (9 : Nat) (0 : Int) = List.getD z (9 : Nat) (0 : Int) ∧ List.getD y_3 (10 : Nat) (0 : Int) = List.getD z (10 : Nat) (0 : Int) ∧ List.getD y_3 (11 : Nat)
  (0 : Int) = List.getD z (11 : Nat) (0 : Int) ∧ List.getD y_3 (12 : Nat) (0 : Int) = List.getD z (12 : Nat) (0 : Int) ∧ List.getD y_3 (13 : Nat) (0 : Int) = List.getD z (13 : Nat)
  (0 : Int) ∧ List.getD y_3 (14 : Nat) (0 : Int) = List.getD z (14 : Nat) (0 : Int) ∧ List.getD y_3 (15 : Nat) (0 : Int) = List.getD z (15 : Nat) (0 : Int) ∧ List.getD y_3 (16 : Nat)
  (0 : Int) = List.getD z (16 : Nat) (0 : Int) ∧ List.getD y_3 (17 : Nat) (0 : Int) = List.getD z (17 : Nat) (0 : Int) ∧ List.getD y_3 (18 : Nat) (0 : Int) = List.getD z (18 : Nat)
  (0 : Int) ∧ List.getD y_3 (19 : Nat) (0 : Int) = List.getD z (19 : Nat) (0 : Int) ∧ List.getD y_3 (20 : Nat) (0 : Int) = List.getD z (20 : Nat) (0 : Int) ∧ List.getD y_3 (21 : Nat)
  (0 : Int) = List.getD z (21 : Nat) (0 : Int) ∧ List.getD y_3 (22 : Nat) (0 : Int) = List.getD z (22 : Nat) (0 : Int) ∧ List.getD y_3 (23 : Nat) (0 : Int) = List.getD z (23 : Nat)
  (0 : Int) ∧ List.getD y_3 (24 : Nat) (0 : Int) = List.getD z (24 : Nat) (0 : Int) ∧ List.getD y_3 (25 : Nat) (0 : Int) = List.getD z (25 : Nat) (0 : Int) ∧ List.getD y_3 (26 : Nat)
  (0 : Int) = List.getD z (26 : Nat) (0 : Int) ∧ List.getD y_3 (27 : Nat) (0 : Int) = List.getD z (27 : Nat) (0 : Int) ∧ List.getD y_3 (28 : Nat) (0 : Int) = List.getD z (28 : Nat)
  (0 : Int) ∧ List.getD y_3 (29 : Nat) (0 : Int) = List.getD z (29 : Nat) (0 : Int) ∧ List.getD y_3 (30 : Nat) (0 : Int) = List.getD z (30 : Nat) (0 : Int) ∧ List.getD y_3 (31 : Nat)
  (0 : Int) = List.getD z (31 : Nat) (0 : Int) ∧ True
  ) := by kernel_rfl
--@end
def stateV (p i : List Int) (o : Opn) (t : List Int) : Val := lisV [bytV p, bytV i, numV o.pc, numV o.fuel, numV o.status, numV o.clause, numV (wr .i64 (o.depth + (o.top.length : Int))), bytV t]
theorem okV_state (p i : List Int) (o : Opn) (t : List Int) : OkV (stateV p i o t) := ⟨by simp [stateV, lisV, numV, bytV, n32, Val.sz, szL]⟩
noncomputable def wholeF (c : List Ins) (v : Env) (o : Opn) : List Int := hashF 3 (stateV (progF c) (inputsF v) o (ontoF (n32 o.rest) o.top))
theorem whole_pure (c : List Ins) (v : Env) (o : Opn) (hc : c.length ≤ 1000000) (ho : o.top.length ≤ 1000000) : PureC E2 23 [.psl Th.ins c false, envV v, opnV o] (dig32 (wholeF c v o)) := by
  refine pure_of_call E2_ok (callOk_of E2_ok Fwho_ok 400) ?_
  rw [cond_whole]
  refine ⟨hc, fun y hy => ⟨trivial, fun y1 hy1 => ⟨ho, fun y2 hy2 => ⟨⟨by omega, okV_state y y1 o y2⟩, fun y3 hy3 => ?_⟩⟩⟩⟩
  have e : y3 = wholeF c v o := by
    rw [hy3]
    show hashF 3 (stateV y y1 o y2) = _
    rw [hy, hy1, hy2]
    rfl
  rw [e]
  exact ⟨rfl, rfl, rfl, rfl, rfl, rfl, rfl, rfl, rfl, rfl, rfl, rfl, rfl, rfl, rfl, rfl, rfl, rfl, rfl, rfl, rfl, rfl, rfl, rfl, rfl, rfl, rfl, rfl, rfl, rfl, rfl, rfl, trivial⟩
noncomputable def Swho : Sum thy := sumPY (.cons (dInss E2) (.cons dEnv2 (.cons dOpn2 .nil))) (fun x => x.1.length ≤ 1000000 ∧ x.2.2.1.top.length ≤ 1000000) (fun x => wholeF x.1 x.2.1 x.2.2.1) dig32
theorem Swho_ok : SumOk E2 23 Swho := sumPY_ok E2_ok (good_of (f := 23) rfl) fun x h => whole_pure x.1 x.2.1 x.2.2.1 h.1 h.2
noncomputable def Fdgs : Fns thy := addS (addS F0 23 Swho) 7 Sopen2
theorem Fdgs_ok : FnsOk E2 Fdgs := addS_ok (addS_ok F0_ok2 Swho_ok) Sopen2_ok
--@cond digest | 9 | E2:Fdgs | 400 | (c : List Ins) (v : Env) (s : St) | [.psl Th.ins c false, envV v, stV s] | (z : List Int) | dig32 z
theorem cond_digest (c : List Ins) (v : Env) (s : St) (z : List Int) : callF E2 Fdgs (vc E2 Fdgs 400) 9 [.psl Th.ins c false, envV v, stV s] hp0 0 (fun r => ret E2 (patch hp0 0 r) r.v (dig32 z)) = (
  List.length (St.stack s) ≤ (1000000 : Nat) ∧ ∀ (y : Opn), y = openF s (↑(List.length (St.stack s)) : Int) → (List.length c ≤ (1000000 : Nat) ∧ List.length (Opn.top y) ≤ (1000000 :
  Nat)) ∧ ∀ (y_1 : List Int), y_1 = wholeF c v (Opn.mk (Opn.pc y) (Opn.fuel y) (Opn.status y) (Opn.clause y) (Opn.top y) (Opn.depth y) [List.getD (Opn.rest y) (0 : Nat) (0 : Int),
  List.getD (Opn.rest y) (1 : Nat) (0 : Int), List.getD (Opn.rest y) (2 : Nat) (0 : Int), List.getD (Opn.rest y) (3 : Nat) (0 : Int), List.getD (Opn.rest y) (4 : Nat) (0 : Int),
  List.getD (Opn.rest y) (5 : Nat) (0 : Int), List.getD (Opn.rest y) (6 : Nat) (0 : Int), List.getD (Opn.rest y) (7 : Nat) (0 : Int), List.getD (Opn.rest y) (8 : Nat) (0 : Int),
  List.getD (Opn.rest y) (9 : Nat) (0 : Int), List.getD (Opn.rest y) (10 : Nat) (0 : Int), List.getD (Opn.rest y) (11 : Nat) (0 : Int), List.getD (Opn.rest y) (12 : Nat) (0 : Int),
  List.getD (Opn.rest y) (13 : Nat) (0 : Int), List.getD (Opn.rest y) (14 : Nat) (0 : Int), List.getD (Opn.rest y) (15 : Nat) (0 : Int), List.getD (Opn.rest y) (16 : Nat) (0 : Int),
  List.getD (Opn.rest y) (17 : Nat) (0 : Int), List.getD (Opn.rest y) (18 : Nat) (0 : Int), List.getD (Opn.rest y) (19 : Nat) (0 : Int), List.getD (Opn.rest y) (20 : Nat) (0 : Int),
  List.getD (Opn.rest y) (21 : Nat) (0 : Int), List.getD (Opn.rest y) (22 : Nat) (0 : Int), List.getD (Opn.rest y) (23 : Nat) (0 : Int), List.getD (Opn.rest y) (24 : Nat) (0 : Int),
  List.getD (Opn.rest y) (25 : Nat) (0 : Int), List.getD (Opn.rest y) (26 : Nat) (0 : Int), List.getD (Opn.rest y) (27 : Nat) (0 : Int), List.getD (Opn.rest y) (28 : Nat) (0 : Int),
  List.getD (Opn.rest y) (29 : Nat) (0 : Int), List.getD (Opn.rest y) (30 : Nat) (0 : Int), List.getD (Opn.rest y) (31 : Nat) (0 : Int)]) → List.getD y_1 (0 : Nat) (0 : Int) =
  List.getD z (0 : Nat) (0 : Int) ∧ List.getD y_1 (1 : Nat) (0 : Int) = List.getD z (1 : Nat) (0 : Int) ∧ List.getD y_1 (2 : Nat) (0 : Int) = List.getD z (2 : Nat) (0 : Int) ∧
  List.getD y_1 (3 : Nat) (0 : Int) = List.getD z (3 : Nat) (0 : Int) ∧ List.getD y_1 (4 : Nat) (0 : Int) = List.getD z (4 : Nat) (0 : Int) ∧ List.getD y_1 (5 : Nat) (0 : Int) =
  List.getD z (5 : Nat) (0 : Int) ∧ List.getD y_1 (6 : Nat) (0 : Int) = List.getD z (6 : Nat) (0 : Int) ∧ List.getD y_1 (7 : Nat) (0 : Int) = List.getD z (7 : Nat) (0 : Int) ∧
  List.getD y_1 (8 : Nat) (0 : Int) = List.getD z (8 : Nat) (0 : Int) ∧ List.getD y_1 (9 : Nat) (0 : Int) = List.getD z (9 : Nat) (0 : Int) ∧ List.getD y_1 (10 : Nat) (0 : Int) =
  List.getD z (10 : Nat) (0 : Int) ∧ List.getD y_1 (11 : Nat) (0 : Int) = List.getD z (11 : Nat) (0 : Int) ∧ List.getD y_1 (12 : Nat) (0 : Int) = List.getD z (12 : Nat) (0 : Int) ∧
  List.getD y_1 (13 : Nat) (0 : Int) = List.getD z (13 : Nat) (0 : Int) ∧ List.getD y_1 (14 : Nat) (0 : Int) = List.getD z (14 : Nat) (0 : Int) ∧ List.getD y_1 (15 : Nat) (0 : Int) =
  List.getD z (15 : Nat) (0 : Int) ∧ List.getD y_1 (16 : Nat) (0 : Int) = List.getD z (16 : Nat) (0 : Int) ∧ List.getD y_1 (17 : Nat) (0 : Int) = List.getD z (17 : Nat) (0 : Int) ∧
  List.getD y_1 (18 : Nat) (0 : Int) = List.getD z (18 : Nat) (0 : Int) ∧ List.getD y_1 (19 : Nat) (0 : Int) = List.getD z (19 : Nat) (0 : Int) ∧ List.getD y_1 (20 : Nat) (0 : Int) =
  List.getD z (20 : Nat) (0 : Int) ∧ List.getD y_1 (21 : Nat) (0 : Int) = List.getD z (21 : Nat) (0 : Int) ∧ List.getD y_1 (22 : Nat) (0 : Int) = List.getD z (22 : Nat) (0 : Int) ∧
  List.getD y_1 (23 : Nat) (0 : Int) = List.getD z (23 : Nat) (0 : Int) ∧ List.getD y_1 (24 : Nat) (0 : Int) = List.getD z (24 : Nat) (0 : Int) ∧ List.getD y_1 (25 : Nat) (0 : Int) =
  List.getD z (25 : Nat) (0 : Int) ∧ List.getD y_1 (26 : Nat) (0 : Int) = List.getD z (26 : Nat) (0 : Int) ∧ List.getD y_1 (27 : Nat) (0 : Int) = List.getD z (27 : Nat) (0 : Int) ∧
  List.getD y_1 (28 : Nat) (0 : Int) = List.getD z (28 : Nat) (0 : Int) ∧ List.getD y_1 (29 : Nat) (0 : Int) = List.getD z (29 : Nat) (0 : Int) ∧ List.getD y_1 (30 : Nat) (0 : Int) =
  List.getD z (30 : Nat) (0 : Int) ∧ List.getD y_1 (31 : Nat) (0 : Int) = List.getD z (31 : Nat) (0 : Int) ∧ True
  ) := by kernel_rfl
--@end
--@cond close | 8 | E2:Fdgs | 400 | (c : List Ins) (v : Env) (o : Opn) | [.psl Th.ins c false, envV v, opnV o] | (z : List Int) | dig32 z
theorem cond_close (c : List Ins) (v : Env) (o : Opn) (z : List Int) : callF E2 Fdgs (vc E2 Fdgs 400) 8 [.psl Th.ins c false, envV v, opnV o] hp0 0 (fun r => ret E2 (patch hp0 0 r) r.v (dig32 z)) = (
  ∃ (Q : Bool → Prop), ((decide (Opn.depth o < (0 : Int)) = true → Q true) ∧ (decide (Opn.depth o < (0 : Int)) = false → (decide (Opn.depth o > (64 : Int)) = true → Q true) ∧ (decide
  (Opn.depth o > (64 : Int)) = false → Q false))) ∧ (Q true → (0 : Int) = List.getD z (0 : Nat) (0 : Int) ∧ (0 : Int) = List.getD z (1 : Nat) (0 : Int) ∧ (0 : Int) = List.getD z (2 :
  Nat) (0 : Int) ∧ (0 : Int) = List.getD z (3 : Nat) (0 : Int) ∧ (0 : Int) = List.getD z (4 : Nat) (0 : Int) ∧ (0 : Int) = List.getD z (5 : Nat) (0 : Int) ∧ (0 : Int) = List.getD z
  (6 : Nat) (0 : Int) ∧ (0 : Int) = List.getD z (7 : Nat) (0 : Int) ∧ (0 : Int) = List.getD z (8 : Nat) (0 : Int) ∧ (0 : Int) = List.getD z (9 : Nat) (0 : Int) ∧ (0 : Int) =
  List.getD z (10 : Nat) (0 : Int) ∧ (0 : Int) = List.getD z (11 : Nat) (0 : Int) ∧ (0 : Int) = List.getD z (12 : Nat) (0 : Int) ∧ (0 : Int) = List.getD z (13 : Nat) (0 : Int) ∧ (0 :
  Int) = List.getD z (14 : Nat) (0 : Int) ∧ (0 : Int) = List.getD z (15 : Nat) (0 : Int) ∧ (0 : Int) = List.getD z (16 : Nat) (0 : Int) ∧ (0 : Int) = List.getD z (17 : Nat) (0 : Int)
  ∧ (0 : Int) = List.getD z (18 : Nat) (0 : Int) ∧ (0 : Int) = List.getD z (19 : Nat) (0 : Int) ∧ (0 : Int) = List.getD z (20 : Nat) (0 : Int) ∧ (0 : Int) = List.getD z (21 : Nat) (0
  : Int) ∧ (0 : Int) = List.getD z (22 : Nat) (0 : Int) ∧ (0 : Int) = List.getD z (23 : Nat) (0 : Int) ∧ (0 : Int) = List.getD z (24 : Nat) (0 : Int) ∧ (0 : Int) = List.getD z (25 :
  Nat) (0 : Int) ∧ (0 : Int) = List.getD z (26 : Nat) (0 : Int) ∧ (0 : Int) = List.getD z (27 : Nat) (0 : Int) ∧ (0 : Int) = List.getD z (28 : Nat) (0 : Int) ∧ (0 : Int) = List.getD
  z (29 : Nat) (0 : Int) ∧ (0 : Int) = List.getD z (30 : Nat) (0 : Int) ∧ (0 : Int) = List.getD z (31 : Nat) (0 : Int) ∧ True) ∧ (Q false → (List.length c ≤ (1000000 : Nat) ∧
  List.length (Opn.top o) ≤ (1000000 : Nat)) ∧ ∀ (y : List Int), y = wholeF c v (Opn.mk (Opn.pc o) (Opn.fuel o) (Opn.status o) (Opn.clause o) (Opn.top o) (Opn.depth o) [List.getD
  (Opn.rest o) (0 : Nat) (0 : Int), List.getD (Opn.rest o) (1 : Nat) (0 : Int), List.getD (Opn.rest o) (2 : Nat) (0 : Int), List.getD (Opn.rest o) (3 : Nat) (0 : Int), List.getD
  (Opn.rest o) (4 : Nat) (0 : Int), List.getD (Opn.rest o) (5 : Nat) (0 : Int), List.getD (Opn.rest o) (6 : Nat) (0 : Int), List.getD (Opn.rest o) (7 : Nat) (0 : Int), List.getD
  (Opn.rest o) (8 : Nat) (0 : Int), List.getD (Opn.rest o) (9 : Nat) (0 : Int), List.getD (Opn.rest o) (10 : Nat) (0 : Int), List.getD (Opn.rest o) (11 : Nat) (0 : Int), List.getD
  (Opn.rest o) (12 : Nat) (0 : Int), List.getD (Opn.rest o) (13 : Nat) (0 : Int), List.getD (Opn.rest o) (14 : Nat) (0 : Int), List.getD (Opn.rest o) (15 : Nat) (0 : Int), List.getD
  (Opn.rest o) (16 : Nat) (0 : Int), List.getD (Opn.rest o) (17 : Nat) (0 : Int), List.getD (Opn.rest o) (18 : Nat) (0 : Int), List.getD (Opn.rest o) (19 : Nat) (0 : Int), List.getD
  (Opn.rest o) (20 : Nat) (0 : Int), List.getD (Opn.rest o) (21 : Nat) (0 : Int), List.getD (Opn.rest o) (22 : Nat) (0 : Int), List.getD (Opn.rest o) (23 : Nat) (0 : Int), List.getD
  (Opn.rest o) (24 : Nat) (0 : Int), List.getD (Opn.rest o) (25 : Nat) (0 : Int), List.getD (Opn.rest o) (26 : Nat) (0 : Int), List.getD (Opn.rest o) (27 : Nat) (0 : Int), List.getD
  (Opn.rest o) (28 : Nat) (0 : Int), List.getD (Opn.rest o) (29 : Nat) (0 : Int), List.getD (Opn.rest o) (30 : Nat) (0 : Int), List.getD (Opn.rest o) (31 : Nat) (0 : Int)]) →
  List.getD y (0 : Nat) (0 : Int) = List.getD z (0 : Nat) (0 : Int) ∧ List.getD y (1 : Nat) (0 : Int) = List.getD z (1 : Nat) (0 : Int) ∧ List.getD y (2 : Nat) (0 : Int) = List.getD
  z (2 : Nat) (0 : Int) ∧ List.getD y (3 : Nat) (0 : Int) = List.getD z (3 : Nat) (0 : Int) ∧ List.getD y (4 : Nat) (0 : Int) = List.getD z (4 : Nat) (0 : Int) ∧ List.getD y (5 :
  Nat) (0 : Int) = List.getD z (5 : Nat) (0 : Int) ∧ List.getD y (6 : Nat) (0 : Int) = List.getD z (6 : Nat) (0 : Int) ∧ List.getD y (7 : Nat) (0 : Int) = List.getD z (7 : Nat) (0 :
  Int) ∧ List.getD y (8 : Nat) (0 : Int) = List.getD z (8 : Nat) (0 : Int) ∧ List.getD y (9 : Nat) (0 : Int) = List.getD z (9 : Nat) (0 : Int) ∧ List.getD y (10 : Nat) (0 : Int) =
  List.getD z (10 : Nat) (0 : Int) ∧ List.getD y (11 : Nat) (0 : Int) = List.getD z (11 : Nat) (0 : Int) ∧ List.getD y (12 : Nat) (0 : Int) = List.getD z (12 : Nat) (0 : Int) ∧
  List.getD y (13 : Nat) (0 : Int) = List.getD z (13 : Nat) (0 : Int) ∧ List.getD y (14 : Nat) (0 : Int) = List.getD z (14 : Nat) (0 : Int) ∧ List.getD y (15 : Nat) (0 : Int) =
  List.getD z (15 : Nat) (0 : Int) ∧ List.getD y (16 : Nat) (0 : Int) = List.getD z (16 : Nat) (0 : Int) ∧ List.getD y (17 : Nat) (0 : Int) = List.getD z (17 : Nat) (0 : Int) ∧
  List.getD y (18 : Nat) (0 : Int) = List.getD z (18 : Nat) (0 : Int) ∧ List.getD y (19 : Nat) (0 : Int) = List.getD z (19 : Nat) (0 : Int) ∧ List.getD y (20 : Nat) (0 : Int) =
  List.getD z (20 : Nat) (0 : Int) ∧ List.getD y (21 : Nat) (0 : Int) = List.getD z (21 : Nat) (0 : Int) ∧ List.getD y (22 : Nat) (0 : Int) = List.getD z (22 : Nat) (0 : Int) ∧
  List.getD y (23 : Nat) (0 : Int) = List.getD z (23 : Nat) (0 : Int) ∧ List.getD y (24 : Nat) (0 : Int) = List.getD z (24 : Nat) (0 : Int) ∧ List.getD y (25 : Nat) (0 : Int) =
  List.getD z (25 : Nat) (0 : Int) ∧ List.getD y (26 : Nat) (0 : Int) = List.getD z (26 : Nat) (0 : Int) ∧ List.getD y (27 : Nat) (0 : Int) = List.getD z (27 : Nat) (0 : Int) ∧
  List.getD y (28 : Nat) (0 : Int) = List.getD z (28 : Nat) (0 : Int) ∧ List.getD y (29 : Nat) (0 : Int) = List.getD z (29 : Nat) (0 : Int) ∧ List.getD y (30 : Nat) (0 : Int) =
  List.getD z (30 : Nat) (0 : Int) ∧ List.getD y (31 : Nat) (0 : Int) = List.getD z (31 : Nat) (0 : Int) ∧ True)
  ) := by kernel_rfl
--@end
noncomputable def digestF (c : List Ins) (v : Env) (s : St) : List Int := wholeF c v (openF s s.stack.length)
noncomputable def closeF (c : List Ins) (v : Env) (o : Opn) : List Int := if o.depth < 0 ∨ 64 < o.depth then zero32 else wholeF c v o
theorem wholeF_rest (c : List Ins) (v : Env) (o : Opn) : wholeF c v ⟨o.pc, o.fuel, o.status, o.clause, o.top, o.depth, n32 o.rest⟩ = wholeF c v o := by
  unfold wholeF
  show hashF 3 (stateV (progF c) (inputsF v) o (ontoF (n32 (n32 o.rest)) o.top)) = _
  rw [n32_id (d := n32 o.rest) (by simp [n32])]
theorem digest_pure (c : List Ins) (v : Env) (s : St) (hc : c.length ≤ 1000000) (hs : s.stack.length ≤ 1000000) : PureC E2 9 [.psl Th.ins c false, envV v, stV s] (dig32 (digestF c v s)) := by
  refine pure_of_call E2_ok (callOk_of E2_ok Fdgs_ok 400) ?_
  rw [cond_digest]
  refine ⟨hs, fun y hy => ⟨⟨hc, ?_⟩, fun y1 hy1 => ?_⟩⟩
  · have := (open_depth s (s.stack.length : Int)).2.1
    rw [hy, this]; omega
  · have e : y1 = digestF c v s := by
      rw [hy1, hy]
      exact wholeF_rest c v (openF s s.stack.length)
    rw [e]
    exact ⟨rfl, rfl, rfl, rfl, rfl, rfl, rfl, rfl, rfl, rfl, rfl, rfl, rfl, rfl, rfl, rfl, rfl, rfl, rfl, rfl, rfl, rfl, rfl, rfl, rfl, rfl, rfl, rfl, rfl, rfl, rfl, rfl, trivial⟩
theorem close_pure (c : List Ins) (v : Env) (o : Opn) (hc : c.length ≤ 1000000) (ho : o.top.length ≤ 1000000) : PureC E2 8 [.psl Th.ins c false, envV v, opnV o] (dig32 (closeF c v o)) := by
  refine pure_of_call E2_ok (callOk_of E2_ok Fdgs_ok 400) ?_
  rw [cond_close]
  refine ⟨fun b => (b = true ↔ (o.depth < 0 ∨ 64 < o.depth)), ⟨fun h => ?_, fun h => ⟨fun h2 => ?_, fun h2 => ?_⟩⟩, fun h => ?_, fun h => ⟨⟨hc, ho⟩, fun y hy => ?_⟩⟩
  · have h := of_decide_eq_true h; simp [h]
  · have h2 := of_decide_eq_true h2; simp; omega
  · have h := of_decide_eq_false h; have h2 := of_decide_eq_false h2; simp; omega
  · unfold closeF
    rw [if_pos (h.1 rfl)]
    exact ⟨rfl, rfl, rfl, rfl, rfl, rfl, rfl, rfl, rfl, rfl, rfl, rfl, rfl, rfl, rfl, rfl, rfl, rfl, rfl, rfl, rfl, rfl, rfl, rfl, rfl, rfl, rfl, rfl, rfl, rfl, rfl, rfl, trivial⟩
  · have e : y = closeF c v o := by
      unfold closeF
      rw [if_neg (fun h' => by have := h.2 h'; cases this), hy]
      exact wholeF_rest c v o
    rw [e]
    exact ⟨rfl, rfl, rfl, rfl, rfl, rfl, rfl, rfl, rfl, rfl, rfl, rfl, rfl, rfl, rfl, rfl, rfl, rfl, rfl, rfl, rfl, rfl, rfl, rfl, rfl, rfl, rfl, rfl, rfl, rfl, rfl, rfl, trivial⟩
noncomputable def Sdgs : Sum thy := sumPY (.cons (dInss E2) (.cons dEnv2 (.cons dSt2 .nil))) (fun x => x.1.length ≤ 1000000 ∧ x.2.2.1.stack.length ≤ 1000000) (fun x => digestF x.1 x.2.1 x.2.2.1) dig32
theorem Sdgs_ok : SumOk E2 9 Sdgs := sumPY_ok E2_ok (good_of (f := 9) rfl) fun x h => digest_pure x.1 x.2.1 x.2.2.1 h.1 h.2
noncomputable def Sclo : Sum thy := sumPY (.cons (dInss E2) (.cons dEnv2 (.cons dOpn2 .nil))) (fun x => x.1.length ≤ 1000000 ∧ x.2.2.1.top.length ≤ 1000000) (fun x => closeF x.1 x.2.1 x.2.2.1) dig32
theorem Sclo_ok : SumOk E2 8 Sclo := sumPY_ok E2_ok (good_of (f := 8) rfl) fun x h => close_pure x.1 x.2.1 x.2.2.1 h.1 h.2
end Go.Proofs.YtcaomfbcchemnabDoor

/- Chapter 21: TvmOpens. -/
namespace Go.Proofs.YtcaomfbcchemnabDoor
open Go
set_option linter.unusedVariables false
set_option linter.unusedSimpArgs false
noncomputable def Fops : Fns thy := addS (addS (addS (addS (addS (addS (addS (addS F0 5 SsaneU) 6 Sfew2) 12 Srneeds2) 7 Sopen2) 10 Sstep2) 11 Sstepo2) 9 Sdgs) 8 Sclo
theorem Fops_ok : FnsOk E2 Fops := addS_ok (addS_ok (addS_ok (addS_ok (addS_ok (addS_ok (addS_ok (addS_ok F0_ok2 SsaneU_ok) Sfew2_ok) Srneeds2_ok) Sopen2_ok) Sstep2_ok) Sstepo2_ok) Sdgs_ok) Sclo_ok
--@cond opens | 3 | E2:Fops | 400 | (c : List Ins) (v : Env) (s : St) (n : Int) | [.psl Th.ins c false, envV v, stV s, .int false .i64 n] | | .bool false true
theorem cond_opens (c : List Ins) (v : Env) (s : St) (n : Int)  : callF E2 Fops (vc E2 Fops 400) 3 [.psl Th.ins c false, envV v, stV s, .int false .i64 n] hp0 0 (fun r => ret E2 (patch hp0 0 r) r.v (.bool false true)) = (
  True ∧ ((!true) = true → false = true) ∧ ((!true) = false → True ∧ ∀ (y : Bool), y = decide (List.length c ≤ (60 : Nat) ∧ List.length (St.stack s) ≤ (66 : Nat)) → ((!y) = true →
  true = true) ∧ ((!y) = false → (decide ((↑(List.length (St.stack s)) : Int) > (64 : Int)) = true → true = true) ∧ (decide ((↑(List.length (St.stack s)) : Int) > (64 : Int)) = false
  → List.length (St.stack s) ≤ (1000000 : Nat) ∧ ∀ (y : Opn), y = openF s n → (List.length c ≤ (1000000 : Nat) ∧ List.length (Opn.top y) ≤ (1000000 : Nat)) ∧ ∀ (y_1 : List Int), y_1
  = closeF c v (Opn.mk (Opn.pc y) (Opn.fuel y) (Opn.status y) (Opn.clause y) (Opn.top y) (Opn.depth y) [List.getD (Opn.rest y) (0 : Nat) (0 : Int), List.getD (Opn.rest y) (1 : Nat)
  (0 : Int), List.getD (Opn.rest y) (2 : Nat) (0 : Int), List.getD (Opn.rest y) (3 : Nat) (0 : Int), List.getD (Opn.rest y) (4 : Nat) (0 : Int), List.getD (Opn.rest y) (5 : Nat) (0 :
  Int), List.getD (Opn.rest y) (6 : Nat) (0 : Int), List.getD (Opn.rest y) (7 : Nat) (0 : Int), List.getD (Opn.rest y) (8 : Nat) (0 : Int), List.getD (Opn.rest y) (9 : Nat) (0 :
  Int), List.getD (Opn.rest y) (10 : Nat) (0 : Int), List.getD (Opn.rest y) (11 : Nat) (0 : Int), List.getD (Opn.rest y) (12 : Nat) (0 : Int), List.getD (Opn.rest y) (13 : Nat) (0 :
  Int), List.getD (Opn.rest y) (14 : Nat) (0 : Int), List.getD (Opn.rest y) (15 : Nat) (0 : Int), List.getD (Opn.rest y) (16 : Nat) (0 : Int), List.getD (Opn.rest y) (17 : Nat) (0 :
  Int), List.getD (Opn.rest y) (18 : Nat) (0 : Int), List.getD (Opn.rest y) (19 : Nat) (0 : Int), List.getD (Opn.rest y) (20 : Nat) (0 : Int), List.getD (Opn.rest y) (21 : Nat) (0 :
  Int), List.getD (Opn.rest y) (22 : Nat) (0 : Int), List.getD (Opn.rest y) (23 : Nat) (0 : Int), List.getD (Opn.rest y) (24 : Nat) (0 : Int), List.getD (Opn.rest y) (25 : Nat) (0 :
  Int), List.getD (Opn.rest y) (26 : Nat) (0 : Int), List.getD (Opn.rest y) (27 : Nat) (0 : Int), List.getD (Opn.rest y) (28 : Nat) (0 : Int), List.getD (Opn.rest y) (29 : Nat) (0 :
  Int), List.getD (Opn.rest y) (30 : Nat) (0 : Int), List.getD (Opn.rest y) (31 : Nat) (0 : Int)]) → (List.length c ≤ (1000000 : Nat) ∧ List.length (St.stack s) ≤ (1000000 : Nat)) ∧
  ∀ (y_2 : List Int), y_2 = digestF c v s → ∀ (v_1 : Bool), v_1 = !(List.getD y_1 (0 : Nat) (0 : Int) == List.getD y_2 (0 : Nat) (0 : Int) && (List.getD y_1 (1 : Nat) (0 : Int) ==
  List.getD y_2 (1 : Nat) (0 : Int) && (List.getD y_1 (2 : Nat) (0 : Int) == List.getD y_2 (2 : Nat) (0 : Int) && (List.getD y_1 (3 : Nat) (0 : Int) == List.getD y_2 (3 : Nat) (0 :
  Int) && (List.getD y_1 (4 : Nat) (0 : Int) == List.getD y_2 (4 : Nat) (0 : Int) && (List.getD y_1 (5 : Nat) (0 : Int) == List.getD y_2 (5 : Nat) (0 : Int) && (List.getD y_1 (6 :
  Nat) (0 : Int) == List.getD y_2 (6 : Nat) (0 : Int) && (List.getD y_1 (7 : Nat) (0 : Int) == List.getD y_2 (7 : Nat) (0 : Int) && (List.getD y_1 (8 : Nat) (0 : Int) == List.getD
  y_2 (8 : Nat) (0 : Int) && (List.getD y_1 (9 : Nat) (0 : Int) == List.getD y_2 (9 : Nat) (0 : Int) && (List.getD y_1 (10 : Nat) (0 : Int) == List.getD y_2 (10 : Nat) (0 : Int) &&
  (List.getD y_1 (11 : Nat) (0 : Int) == List.getD y_2 (11 : Nat) (0 : Int) && (List.getD y_1 (12 : Nat) (0 : Int) == List.getD y_2 (12 : Nat) (0 : Int) && (List.getD y_1 (13 : Nat)
  (0 : Int) == List.getD y_2 (13 : Nat) (0 : Int) && (List.getD y_1 (14 : Nat) (0 : Int) == List.getD y_2 (14 : Nat) (0 : Int) && (List.getD y_1 (15 : Nat) (0 : Int) == List.getD y_2
  (15 : Nat) (0 : Int) && (List.getD y_1 (16 : Nat) (0 : Int) == List.getD y_2 (16 : Nat) (0 : Int) && (List.getD y_1 (17 : Nat) (0 : Int) == List.getD y_2 (17 : Nat) (0 : Int) &&
  (List.getD y_1 (18 : Nat) (0 : Int) == List.getD y_2 (18 : Nat) (0 : Int) && (List.getD y_1 (19 : Nat) (0 : Int) == List.getD y_2 (19 : Nat) (0 : Int) && (List.getD y_1 (20 : Nat)
  (0 : Int) == List.getD y_2 (20 : Nat) (0 : Int) && (List.getD y_1 (21 : Nat) (0 : Int) == List.getD y_2 (21 : Nat) (0 : Int) && (List.getD y_1 (22 : Nat) (0 : Int) == List.getD y_2
  (22 : Nat) (0 : Int) && (List.getD y_1 (23 : Nat) (0 : Int) == List.getD y_2 (23 : Nat) (0 : Int) && (List.getD y_1 (24 : Nat) (0 : Int) == List.getD y_2 (24 : Nat) (0 : Int) &&
  (List.getD y_1 (25 : Nat) (0 : Int) == List.getD y_2 (25 : Nat) (0 : Int) && (List.getD y_1 (26 : Nat) (0 : Int) == List.getD y_2 (26 : Nat) (0 : Int) && (List.getD y_1 (27 : Nat)
  (0 : Int) == List.getD y_2 (27 : Nat) (0 : Int) && (List.getD y_1 (28 : Nat) (0 : Int) == List.getD y_2 (28 : Nat) (0 : Int) && (List.getD y_1 (29 : Nat) (0 : Int) == List.getD y_2
  (29 : Nat) (0 : Int) && (List.getD y_1 (30 : Nat) (0 : Int) == List.getD y_2 (30 : Nat) (0 : Int) && (List.getD y_1 (31 : Nat) (0 : Int) == List.getD y_2 (31 : Nat) (0 : Int) &&
  true)))))))))))))))))))))))))))))))) → (v_1 = true → false = true) ∧ (v_1 = false → (decide ((↑(List.length (Opn.top y)) : Int) > mm2 true n (0 : Int)) = true → false = true) ∧
  (decide ((↑(List.length (Opn.top y)) : Int) > mm2 true n (0 : Int)) = false → ((wr IntKind.i64 (Opn.depth y + (↑(List.length (Opn.top y)) : Int)) != (↑(List.length (St.stack s)) :
  Int)) = true → false = true) ∧ ((wr IntKind.i64 (Opn.depth y + (↑(List.length (Opn.top y)) : Int)) != (↑(List.length (St.stack s)) : Int)) = false → True ∧ ∀ (y_3 : St × Int), y_3
  = stepF c v s → True ∧ ∀ (y_4 : Opn × Int), y_4 = stepOpenF c v (Opn.mk (Opn.pc y) (Opn.fuel y) (Opn.status y) (Opn.clause y) (Opn.top y) (Opn.depth y) [List.getD (Opn.rest y) (0 :
  Nat) (0 : Int), List.getD (Opn.rest y) (1 : Nat) (0 : Int), List.getD (Opn.rest y) (2 : Nat) (0 : Int), List.getD (Opn.rest y) (3 : Nat) (0 : Int), List.getD (Opn.rest y) (4 : Nat)
  (0 : Int), List.getD (Opn.rest y) (5 : Nat) (0 : Int), List.getD (Opn.rest y) (6 : Nat) (0 : Int), List.getD (Opn.rest y) (7 : Nat) (0 : Int), List.getD (Opn.rest y) (8 : Nat) (0 :
  Int), List.getD (Opn.rest y) (9 : Nat) (0 : Int), List.getD (Opn.rest y) (10 : Nat) (0 : Int), List.getD (Opn.rest y) (11 : Nat) (0 : Int), List.getD (Opn.rest y) (12 : Nat) (0 :
  Int), List.getD (Opn.rest y) (13 : Nat) (0 : Int), List.getD (Opn.rest y) (14 : Nat) (0 : Int), List.getD (Opn.rest y) (15 : Nat) (0 : Int), List.getD (Opn.rest y) (16 : Nat) (0 :
  Int), List.getD (Opn.rest y) (17 : Nat) (0 : Int), List.getD (Opn.rest y) (18 : Nat) (0 : Int), List.getD (Opn.rest y) (19 : Nat) (0 : Int), List.getD (Opn.rest y) (20 : Nat) (0 :
  Int), List.getD (Opn.rest y) (21 : Nat) (0 : Int), List.getD (Opn.rest y) (22 : Nat) (0 : Int), List.getD (Opn.rest y) (23 : Nat) (0 : Int), List.getD (Opn.rest y) (24 : Nat) (0 :
  Int), List.getD (Opn.rest y) (25 : Nat) (0 : Int), List.getD (Opn.rest y) (26 : Nat) (0 : Int), List.getD (Opn.rest y) (27 : Nat) (0 : Int), List.getD (Opn.rest y) (28 : Nat) (0 :
  Int), List.getD (Opn.rest y) (29 : Nat) (0 : Int), List.getD (Opn.rest y) (30 : Nat) (0 : Int), List.getD (Opn.rest y) (31 : Nat) (0 : Int)]) → ((Prod.snd y_3 != (0 : Int)) = true
  → ((Prod.snd y_4 == Prod.snd y_3) = true → true = true) ∧ ((Prod.snd y_4 == Prod.snd y_3) = false → false = true)) ∧ ((Prod.snd y_3 != (0 : Int)) = false → ((Prod.snd y_4 == (390 :
  Int)) = true → (decide (St.pc s ≥ (0 : Int)) = true → (decide (St.pc s < (↑(List.length c) : Int)) = true → (decide (Opn.depth y > (0 : Int)) = true → (0 : Int) ≤ St.pc s ∧ St.pc s
  + (1 : Int) ≤ (↑(List.length c) : Int) ∧ ∀ (x : Ins), c[Int.toNat (St.pc s)]? = some x → True ∧ (decide ((↑(List.length (Opn.top y)) : Int) < needsF (Ins.op x)) = true → true =
  true) ∧ (decide ((↑(List.length (Opn.top y)) : Int) < needsF (Ins.op x)) = false → false = true)) ∧ (decide (Opn.depth y > (0 : Int)) = false → false = true)) ∧ (decide (St.pc s <
  (↑(List.length c) : Int)) = false → false = true)) ∧ (decide (St.pc s ≥ (0 : Int)) = false → false = true)) ∧ ((Prod.snd y_4 == (390 : Int)) = false → ((Prod.snd y_4 == (0 : Int))
  = true → (List.length c ≤ (1000000 : Nat) ∧ List.length (Opn.top (Prod.fst y_4)) ≤ (1000000 : Nat)) ∧ ∀ (y_5 : List Int), y_5 = closeF c v (Opn.mk (Opn.pc (Prod.fst y_4)) (Opn.fuel
  (Prod.fst y_4)) (Opn.status (Prod.fst y_4)) (Opn.clause (Prod.fst y_4)) (Opn.top (Prod.fst y_4)) (Opn.depth (Prod.fst y_4)) [List.getD (Opn.rest (Prod.fst y_4)) (0 : Nat) (0 :
  Int), List.getD (Opn.rest (Prod.fst y_4)) (1 : Nat) (0 : Int), List.getD (Opn.rest (Prod.fst y_4)) (2 : Nat) (0 : Int), List.getD (Opn.rest (Prod.fst y_4)) (3 : Nat) (0 : Int),
  List.getD (Opn.rest (Prod.fst y_4)) (4 : Nat) (0 : Int), List.getD (Opn.rest (Prod.fst y_4)) (5 : Nat) (0 : Int), List.getD (Opn.rest (Prod.fst y_4)) (6 : Nat) (0 : Int), List.getD
  (Opn.rest (Prod.fst y_4)) (7 : Nat) (0 : Int), List.getD (Opn.rest (Prod.fst y_4)) (8 : Nat) (0 : Int), List.getD (Opn.rest (Prod.fst y_4)) (9 : Nat) (0 : Int), List.getD (Opn.rest
  (Prod.fst y_4)) (10 : Nat) (0 : Int), List.getD (Opn.rest (Prod.fst y_4)) (11 : Nat) (0 : Int), List.getD (Opn.rest (Prod.fst y_4)) (12 : Nat) (0 : Int), List.getD (Opn.rest
  (Prod.fst y_4)) (13 : Nat) (0 : Int), List.getD (Opn.rest (Prod.fst y_4)) (14 : Nat) (0 : Int), List.getD (Opn.rest (Prod.fst y_4)) (15 : Nat) (0 : Int), List.getD (Opn.rest
  (Prod.fst y_4)) (16 : Nat) (0 : Int), List.getD (Opn.rest (Prod.fst y_4)) (17 : Nat) (0 : Int), List.getD (Opn.rest (Prod.fst y_4)) (18 : Nat) (0 : Int), List.getD (Opn.rest
  (Prod.fst y_4)) (19 : Nat) (0 : Int), List.getD (Opn.rest (Prod.fst y_4)) (20 : Nat) (0 : Int), List.getD (Opn.rest (Prod.fst y_4)) (21 : Nat) (0 : Int), List.getD (Opn.rest
  (Prod.fst y_4)) (22 : Nat) (0 : Int), List.getD (Opn.rest (Prod.fst y_4)) (23 : Nat) (0 : Int), List.getD (Opn.rest (Prod.fst y_4)) (24 : Nat) (0 : Int), List.getD (Opn.rest
  (Prod.fst y_4)) (25 : Nat) (0 : Int), List.getD (Opn.rest (Prod.fst y_4)) (26 : Nat) (0 : Int), List.getD (Opn.rest (Prod.fst y_4)) (27 : Nat) (0 : Int), List.getD (Opn.rest
  (Prod.fst y_4)) (28 : Nat) (0 : Int), List.getD (Opn.rest (Prod.fst y_4)) (29 : Nat) (0 : Int), List.getD (Opn.rest (Prod.fst y_4)) (30 : Nat) (0 : Int), List.getD (Opn.rest
  (Prod.fst y_4)) (31 : Nat) (0 : Int)]) → (List.length c ≤ (1000000 : Nat) ∧ List.length (St.stack (Prod.fst y_3)) ≤ (1000000 : Nat)) ∧ ∀ (y_6 : List Int), y_6 = digestF c v
  (Prod.fst y_3) → ∀ (v : Bool), v = (List.getD y_5 (0 : Nat) (0 : Int) == List.getD y_6 (0 : Nat) (0 : Int) && (List.getD y_5 (1 : Nat) (0 : Int) == List.getD y_6 (1 : Nat) (0 :
  Int) && (List.getD y_5 (2 : Nat) (0 : Int) == List.getD y_6 (2 : Nat) (0 : Int) && (List.getD y_5 (3 : Nat) (0 : Int) == List.getD y_6 (3 : Nat) (0 : Int) && (List.getD y_5 (4 :
  Nat) (0 : Int) == List.getD y_6 (4 : Nat) (0 : Int) && (List.getD y_5 (5 : Nat) (0 : Int) == List.getD y_6 (5 : Nat) (0 : Int) && (List.getD y_5 (6 : Nat) (0 : Int) == List.getD
  y_6 (6 : Nat) (0 : Int) && (List.getD y_5 (7 : Nat) (0 : Int) == List.getD y_6 (7 : Nat) (0 : Int) && (List.getD y_5 (8 : Nat) (0 : Int) == List.getD y_6 (8 : Nat) (0 : Int) &&
  (List.getD y_5 (9 : Nat) (0 : Int) == List.getD y_6 (9 : Nat) (0 : Int) && (List.getD y_5 (10 : Nat) (0 : Int) == List.getD y_6 (10 : Nat) (0 : Int) && (List.getD y_5 (11 : Nat) (0
  : Int) == List.getD y_6 (11 : Nat) (0 : Int) && (List.getD y_5 (12 : Nat) (0 : Int) == List.getD y_6 (12 : Nat) (0 : Int) && (List.getD y_5 (13 : Nat) (0 : Int) == List.getD y_6
  (13 : Nat) (0 : Int) && (List.getD y_5 (14 : Nat) (0 : Int) == List.getD y_6 (14 : Nat) (0 : Int) && (List.getD y_5 (15 : Nat) (0 : Int) == List.getD y_6 (15 : Nat) (0 : Int) &&
  (List.getD y_5 (16 : Nat) (0 : Int) == List.getD y_6 (16 : Nat) (0 : Int) && (List.getD y_5 (17 : Nat) (0 : Int) == List.getD y_6 (17 : Nat) (0 : Int) && (List.getD y_5 (18 : Nat)
  (0 : Int) == List.getD y_6 (18 : Nat) (0 : Int) && (List.getD y_5 (19 : Nat) (0 : Int) == List.getD y_6 (19 : Nat) (0 : Int) && (List.getD y_5 (20 : Nat) (0 : Int) == List.getD y_6
  (20 : Nat) (0 : Int) && (List.getD y_5 (21 : Nat) (0 : Int) == List.getD y_6 (21 : Nat) (0 : Int) && (List.getD y_5 (22 : Nat) (0 : Int) == List.getD y_6 (22 : Nat) (0 : Int) &&
  (List.getD y_5 (23 : Nat) (0 : Int) == List.getD y_6 (23 : Nat) (0 : Int) && (List.getD y_5 (24 : Nat) (0 : Int) == List.getD y_6 (24 : Nat) (0 : Int) && (List.getD y_5 (25 : Nat)
  (0 : Int) == List.getD y_6 (25 : Nat) (0 : Int) && (List.getD y_5 (26 : Nat) (0 : Int) == List.getD y_6 (26 : Nat) (0 : Int) && (List.getD y_5 (27 : Nat) (0 : Int) == List.getD y_6
  (27 : Nat) (0 : Int) && (List.getD y_5 (28 : Nat) (0 : Int) == List.getD y_6 (28 : Nat) (0 : Int) && (List.getD y_5 (29 : Nat) (0 : Int) == List.getD y_6 (29 : Nat) (0 : Int) &&
  (List.getD y_5 (30 : Nat) (0 : Int) == List.getD y_6 (30 : Nat) (0 : Int) && (List.getD y_5 (31 : Nat) (0 : Int) == List.getD y_6 (31 : Nat) (0 : Int) &&
  true)))))))))))))))))))))))))))))))) → (v = true → (decide ((↑(List.length (Opn.top (Prod.fst y_4))) : Int) ≤ wr IntKind.i64 ((↑(List.length (Opn.top y)) : Int) + (1 : Int))) =
  true → ((Opn.depth (Prod.fst y_4) == Opn.depth y) = true → true = true) ∧ ((Opn.depth (Prod.fst y_4) == Opn.depth y) = false → false = true)) ∧ (decide ((↑(List.length (Opn.top
  (Prod.fst y_4))) : Int) ≤ wr IntKind.i64 ((↑(List.length (Opn.top y)) : Int) + (1 : Int))) = false → false = true)) ∧ (v = false → false = true)) ∧ ((Prod.snd y_4 == (0 : Int)) =
  false → false = true)))))))))
  ) := by kernel_rfl
--@end
/-- the digest of a state -/
noncomputable def wholeS (c : List Ins) (v : Env) (s : St) : List Int := hashF 3 (lisV [bytV (progF c), bytV (inputsF v), numV s.pc, numV s.fuel, numV s.status, numV s.clause, numV (wr .i64 (s.stack.length : Int)), bytV (stackF s.stack)])
theorem ontoF_app (d : List Int) (a b : List Int) : ontoF (ontoF d a) b = ontoF d (a ++ b) := by simp [ontoF, List.foldl_append]
theorem whole_on (c : List Ins) (v : Env) (o : Opn) (A : List Int) (hd : o.depth = A.length) (hr : o.rest = stackF A) : wholeF c v o = wholeS c v (o.st.on A) := by
  unfold wholeF wholeS stateV
  have e1 : ontoF (n32 o.rest) o.top = stackF (o.st.on A).stack := by
    rw [hr, n32_id (stackF_len A)]
    exact ontoF_app zero32 A o.top
  have e2 : o.depth + (o.top.length : Int) = ((o.st.on A).stack.length : Int) := by
    show _ = ((A ++ o.top).length : Int)
    rw [List.length_append, hd]; omega
  rw [e1, e2]
  rfl
theorem whole_open (c : List Ins) (v : Env) (s : St) (n : Int) : wholeF c v (openF s n) = wholeS c v s := by
  rw [whole_on c v (openF s n) (s.stack.take (kOf s n)) (by rw [(open_depth s n).1, (open_depth s n).2.2.1]) rfl, ← open_on]
theorem digest_eq (c : List Ins) (v : Env) (s : St) : digestF c v s = wholeS c v s := whole_open c v s s.stack.length
theorem opens_pure (c : List Ins) (v : Env) (s : St) (n : Int) : PureC E2 3 [.psl Th.ins c false, envV v, stV s, .int false .i64 n] (.bool false true) := by
  refine pure_of_call E2_ok (callOk_of E2_ok Fops_ok 400) ?_
  rw [cond_opens]
  refine ⟨trivial, fun h => absurd h (by simp), fun _ => ⟨trivial, fun y hy => ⟨fun _ => rfl, fun hy2 => ⟨fun _ => rfl, fun h64 => ?_⟩⟩⟩⟩
  have h64 := of_decide_eq_false h64
  have hfew : c.length ≤ 60 ∧ s.stack.length ≤ 66 := by
    rw [hy] at hy2
    simpa using hy2
  have hcl := hfew.1
  refine ⟨by omega, fun o ho => ?_⟩
  obtain ⟨d1, d2, d3, d4⟩ := open_depth s n
  have hrest : o.rest.length = 32 := by rw [ho]; exact stackF_len _
  have hnorm : (⟨o.pc, o.fuel, o.status, o.clause, o.top, o.depth, n32 o.rest⟩ : Opn) = o := by rw [n32_id hrest]
  rw [← ho] at d1 d2 d4
  refine ⟨⟨by omega, by omega⟩, fun y1 hy1 => ⟨⟨by omega, by omega⟩, fun y2 hy2 => fun b hb => ?_⟩⟩
  have hy1 : y1 = wholeS c v s := by
    have hy1 : y1 = closeF c v ⟨o.pc, o.fuel, o.status, o.clause, o.top, o.depth, n32 o.rest⟩ := hy1
    rw [hy1, hnorm]
    unfold closeF
    rw [if_neg (by unfold kOf at d1; omega), ho, whole_open]
  have hy2 : y2 = wholeS c v s := by rw [hy2, digest_eq]
  have hb : b = false := by
    rw [hb, hy1, hy2]
    show (!(eq32 _ _)) = false
    rw [eq32_self]; rfl
  rw [hb]
  refine ⟨fun h => (by cases h), fun _ => ⟨fun h => ?_, fun _ => ⟨fun h => ?_, fun _ => ⟨trivial, fun r hr => ⟨trivial, fun q hq => ?_⟩⟩⟩⟩⟩
  · have h := of_decide_eq_true h
    rw [mm2_max] at h
    omega
  · exfalso
    rw [wr64 (by omega) (by omega)] at h
    simp only [bne_iff_ne] at h
    omega
  have hq : q = stepOpenF c v o := by
    have hq : q = stepOpenF c v ⟨o.pc, o.fuel, o.status, o.clause, o.top, o.depth, n32 o.rest⟩ := hq
    rw [hq, hnorm]
  have hready := ready_open c s n (by omega)
  rw [← ho] at hready
  by_cases hR : readyF c s 0 = 0
  · have hcan := ready_can hR
    have hp0 := hcan.pc0
    have hp1 := hcan.pc1
    obtain ⟨x, hx⟩ : ∃ x, c[s.pc.toNat]? = some x := ⟨c[s.pc.toNat]'(by omega), by simp⟩
    have hop : 1 ≤ x.op ∧ x.op ≤ 16 := formed_op (hcan.formed x hx)
    have hr : r = (advF c v s 0, 0) := by rw [hr]; unfold stepF; rw [if_neg (fun h => h hR)]
    have hx' : c[o.pc.toNat]? = some x := by rw [ho]; exact hx
    have hfu : o.fuel = s.fuel := by rw [ho]; rfl
    have e1 : r.2 = 0 := by rw [hr]
    refine ⟨fun h => absurd h (by rw [e1]; simp), fun _ => ?_⟩
    by_cases hno : 0 < s.fuel ∧ 0 < o.depth ∧ (o.top.length : Int) < needsF x.op
    · have hq : q = (zeroOpn, 390) := by
        rw [hq]
        unfold stepOpenF
        rw [if_neg (by rw [hready]; exact fun h => h hR), hx', if_pos (by rw [hfu]; exact hno)]
      refine ⟨fun _ => ⟨fun _ => ⟨fun _ => ⟨fun _ => ⟨hp0, by omega, fun x' hx2 => ⟨trivial, fun _ => rfl, fun h => ?_⟩⟩, fun h => ?_⟩, fun h => ?_⟩, fun h => ?_⟩, fun h => absurd h (by rw [hq]; simp)⟩
      · have h := of_decide_eq_false h
        rw [hx] at hx2
        cases hx2
        omega
      · have h := of_decide_eq_false h; omega
      · have h := of_decide_eq_false h; omega
      · have h := of_decide_eq_false h; omega
    · have hadv := step_open (v := v) (n := n) (by omega) hR hx hop (by rw [← ho]; exact hno) hcan.fuel0
      rw [← ho] at hadv
      have hq : q = (⟨(advF c v o.st o.depth).pc, (advF c v o.st o.depth).fuel, (advF c v o.st o.depth).status, (advF c v o.st o.depth).clause, (advF c v o.st o.depth).stack, o.depth, o.rest⟩, 0) := by
        rw [hq]
        unfold stepOpenF
        rw [if_neg (by rw [hready]; exact fun h => h hR), hx', if_neg (by rw [hfu]; exact hno)]
      rw [hadv] at hr
      have hz := adv_len2 c v o.st o.depth
      have hz0 : o.st.stack.length = o.top.length := rfl
      generalize advF c v o.st o.depth = z at *
      refine ⟨fun h => absurd h (by rw [hq]; simp), fun _ => ⟨fun _ => ?_, fun h => absurd h (by rw [hq]; simp)⟩⟩
      subst hq hr
      refine ⟨⟨by omega, by show z.stack.length ≤ _; omega⟩, fun y5 hy5 => ⟨⟨by omega, ?_⟩, fun y6 hy6 => fun b hb => ?_⟩⟩
      · show (s.stack.take (kOf s n) ++ z.stack).length ≤ _
        rw [List.length_append, d3]; omega
      · have hy5 : y5 = wholeS c v (z.on (s.stack.take (kOf s n))) := by
          have hy5 : y5 = closeF c v ⟨z.pc, z.fuel, z.status, z.clause, z.stack, o.depth, n32 o.rest⟩ := hy5
          rw [hy5, n32_id hrest]
          unfold closeF
          rw [if_neg (by unfold kOf at d1; show ¬ (o.depth < 0 ∨ 64 < o.depth); omega), whole_on c v _ (s.stack.take (kOf s n)) (by show o.depth = _; rw [d1, d3]) (by show o.rest = _; rw [ho]; rfl)]
          rfl
        have hy6 : y6 = wholeS c v (z.on (s.stack.take (kOf s n))) := by rw [hy6, digest_eq]
        refine cmp32 hb (hy5.trans hy6.symm) ⟨fun _ => ⟨fun _ => rfl, fun h => absurd h (by simp)⟩, fun h => ?_⟩
        have h := of_decide_eq_false h
        rw [wr64 (by omega) (by omega)] at h
        exact absurd (by show (z.stack.length : Int) ≤ _; omega) h
  · have hr : r = (.zero, readyF c s 0) := by rw [hr]; unfold stepF; rw [if_pos hR]
    have hq : q = (zeroOpn, readyF c s 0) := by rw [hq]; unfold stepOpenF; rw [hready, if_pos hR]
    have e1 : r.2 = readyF c s 0 := by rw [hr]
    have e2 : q.2 = readyF c s 0 := by rw [hq]
    refine ⟨fun _ => ⟨fun _ => rfl, fun h => absurd h (by rw [e1, e2]; simp)⟩, fun h => absurd h (by rw [e1]; simpa using hR)⟩
end Go.Proofs.YtcaomfbcchemnabDoor
