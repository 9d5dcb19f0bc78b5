/- Merged texts: TvUf, TvTop2. -/
import Derived.Test.YtcaomfbcchemnaaDoorMd
/- Chapter 21: TvmChains. -/
namespace Go.Proofs.YtcaomfbcchemnaaDoor
open Go
set_option linter.unusedVariables false
set_option linter.unusedSimpArgs false
def dIntsE (E : Eng thy) : Dc E (List Int) := (dList (E := E) Th.ints : Dc E (List (thy.dom Th.ints)))
def dInss (E : Eng thy) : Dc E (List Ins) := (dList (E := E) Th.ins : Dc E (List (thy.dom Th.ins)))
/-- a digest as an argument -/
def dDig (E : Eng thy) : Dc E (List Int) where
  dec v := match v with | .agg cs => (match numsOf .u8 cs with | some l => (match Nat.beq l.length 32 with | true => some l | false => none) | none => none) | _ => none
  enc d := dig32 d
  ok v l h := by
    split at h
    · rename_i cs
      split at h
      · rename_i l' hl
        split at h
        · rename_i hlen
          cases h
          have hlen := Nat.eq_of_beq_eq_true hlen
          have e : dig32 l = rowV .u8 l := by
            match l, hlen with
            | [a0, a1, a2, a3, a4, a5, a6, a7, a8, a9, a10, a11, a12, a13, a14, a15, a16, a17, a18, a19, a20, a21, a22, a23, a24, a25, a26, a27, a28, a29, a30, a31], _ => rfl
          rw [e]
          exact (dNums E .u8).ok (.agg cs) l hl
        · cases h
      · cases h
    · cases h
noncomputable def Sonto : Sum thy := sumFY E2 gthV 4 (.cons (dDig E2) (.cons (dIntsE E2) .nil)) (fun x => x.2.1.length ≤ 1000000) (fun x => ontoF x.1 x.2.1) dig32
theorem Sonto_ok : SumOk E2 40 Sonto := sumFY_ok E2_ok (good_of (f := 40) rfl) fun x h => onto_pure x.1 x.2.1 h
noncomputable def Fstk : Fns thy := addS F0 40 Sonto
theorem Fstk_ok : FnsOk E2 Fstk := addS_ok F0_ok2 Sonto_ok
--@cond stack | 20 | E2:Fstk | 400 | (l : List Int) | [.psl Th.ints l false] | (z : List Int) | dig32 z
theorem cond_stack (l : List Int) (z : List Int) : callF E2 Fstk (vc E2 Fstk 400) 20 [.psl Th.ints l false] hp0 0 (fun r => ret E2 (patch hp0 0 r) r.v (dig32 z)) = (
  List.length l ≤ (1000000 : Nat) ∧ ∀ (y : List Int), y = ontoF [(0 : Int), (0 : Int), (0 : Int), (0 : Int), (0 : Int), (0 : Int), (0 : Int), (0 : Int), (0 : Int), (0 : Int), (0 :
  Int), (0 : Int), (0 : Int), (0 : Int), (0 : Int), (0 : Int), (0 : Int), (0 : Int), (0 : Int), (0 : Int), (0 : Int), (0 : Int), (0 : Int), (0 : Int), (0 : Int), (0 : Int), (0 :
  Int), (0 : Int), (0 : Int), (0 : Int), (0 : Int), (0 : Int)] l → List.getD y (0 : Nat) (0 : Int) = List.getD z (0 : Nat) (0 : Int) ∧ List.getD y (1 : Nat) (0 : Int) = List.getD z
  (1 : Nat) (0 : Int) ∧ List.getD y (2 : Nat) (0 : Int) = List.getD z (2 : Nat) (0 : Int) ∧ List.getD y (3 : Nat) (0 : Int) = List.getD z (3 : Nat) (0 : Int) ∧ List.getD y (4 : Nat)
  (0 : Int) = List.getD z (4 : Nat) (0 : Int) ∧ List.getD y (5 : Nat) (0 : Int) = List.getD z (5 : Nat) (0 : Int) ∧ List.getD y (6 : Nat) (0 : Int) = List.getD z (6 : Nat) (0 : Int)
  ∧ List.getD y (7 : Nat) (0 : Int) = List.getD z (7 : Nat) (0 : Int) ∧ List.getD y (8 : Nat) (0 : Int) = List.getD z (8 : Nat) (0 : Int) ∧ List.getD y (9 : Nat) (0 : Int) =
  List.getD z (9 : Nat) (0 : Int) ∧ List.getD y (10 : Nat) (0 : Int) = List.getD z (10 : Nat) (0 : Int) ∧ List.getD y (11 : Nat) (0 : Int) = List.getD z (11 : Nat) (0 : Int) ∧
  List.getD y (12 : Nat) (0 : Int) = List.getD z (12 : Nat) (0 : Int) ∧ List.getD y (13 : Nat) (0 : Int) = List.getD z (13 : Nat) (0 : Int) ∧ List.getD y (14 : Nat) (0 : Int) =
  List.getD z (14 : Nat) (0 : Int) ∧ List.getD y (15 : Nat) (0 : Int) = List.getD z (15 : Nat) (0 : Int) ∧ List.getD y (16 : Nat) (0 : Int) = List.getD z (16 : Nat) (0 : Int) ∧
  List.getD y (17 : Nat) (0 : Int) = List.getD z (17 : Nat) (0 : Int) ∧ List.getD y (18 : Nat) (0 : Int) = List.getD z (18 : Nat) (0 : Int) ∧ List.getD y (19 : Nat) (0 : Int) =
  List.getD z (19 : Nat) (0 : Int) ∧ List.getD y (20 : Nat) (0 : Int) = List.getD z (20 : Nat) (0 : Int) ∧ List.getD y (21 : Nat) (0 : Int) = List.getD z (21 : Nat) (0 : Int) ∧
  List.getD y (22 : Nat) (0 : Int) = List.getD z (22 : Nat) (0 : Int) ∧ List.getD y (23 : Nat) (0 : Int) = List.getD z (23 : Nat) (0 : Int) ∧ List.getD y (24 : Nat) (0 : Int) =
  List.getD z (24 : Nat) (0 : Int) ∧ List.getD y (25 : Nat) (0 : Int) = List.getD z (25 : Nat) (0 : Int) ∧ List.getD y (26 : Nat) (0 : Int) = List.getD z (26 : Nat) (0 : Int) ∧
  List.getD y (27 : Nat) (0 : Int) = List.getD z (27 : Nat) (0 : Int) ∧ List.getD y (28 : Nat) (0 : Int) = List.getD z (28 : Nat) (0 : Int) ∧ List.getD y (29 : Nat) (0 : Int) =
  List.getD z (29 : Nat) (0 : Int) ∧ List.getD y (30 : Nat) (0 : Int) = List.getD z (30 : Nat) (0 : Int) ∧ List.getD y (31 : Nat) (0 : Int) = List.getD z (31 : Nat) (0 : Int) ∧ True
  ) := by kernel_rfl
--@end
theorem stack_pure (l : List Int) (hl : l.length ≤ 1000000) : PureC E2 20 [.psl Th.ints l false] (dig32 (stackF l)) := by
  refine pure_of_call E2_ok (callOk_of E2_ok Fstk_ok 400) ?_
  rw [cond_stack]
  refine ⟨hl, fun y hy => ?_⟩
  rw [hy]
  exact ⟨rfl, rfl, rfl, rfl, rfl, rfl, rfl, rfl, rfl, rfl, rfl, rfl, rfl, rfl, rfl, rfl, rfl, rfl, rfl, rfl, rfl, rfl, rfl, rfl, rfl, rfl, rfl, rfl, rfl, rfl, rfl, rfl, trivial⟩
noncomputable def Sstk : Sum thy := sumFY E2 gthV 4 (.cons (dIntsE E2) .nil) (fun x => x.1.length ≤ 1000000) (fun x => stackF x.1) dig32
theorem Sstk_ok : SumOk E2 20 Sstk := sumFY_ok E2_ok (good_of (f := 20) rfl) fun x h => stack_pure x.1 h
noncomputable def Sprg : Sum thy := sumFY E2 gthV 4 (.cons (dInss E2) .nil) (fun x => x.1.length ≤ 1000000) (fun x => progF x.1) dig32
theorem Sprg_ok : SumOk E2 21 Sprg := sumFY_ok E2_ok (good_of (f := 21) rfl) fun x h => prog_pure x.1 h
noncomputable def SsaneU : Sum thy := sumP (.nil (E := E2)) (fun _ => True) fun _ => .bool false true
theorem SsaneU_ok : SumOk E2 8 SsaneU := sumP_ok E2_ok (good_of (f := 8) rfl) fun x _ => up2 sane_pure
noncomputable def Fcha : Fns thy := addS (addS (addS (addS F0 8 SsaneU) 20 Sstk) 21 Sprg) 22 Svalue
theorem Fcha_ok : FnsOk E2 Fcha := addS_ok (addS_ok (addS_ok (addS_ok F0_ok2 SsaneU_ok) Sstk_ok) Sprg_ok) Svalue_ok
--@cond chains | 6 | E2:Fcha | 400 | (c : List Ins) (x : Ins) (l : List Int) (n : Int) | [.psl Th.ins c false, .agg (encF false .ins x), .psl Th.ints l false, .int false .i64 n] | | .bool false true
theorem cond_chains (c : List Ins) (x : Ins) (l : List Int) (n : Int)  : callF E2 Fcha (vc E2 Fcha 400) 6 [.psl Th.ins c false, .agg (encF false .ins x), .psl Th.ints l false, .int false .i64 n] hp0 0 (fun r => ret E2 (patch hp0 0 r) r.v (.bool false true)) = (
  True ∧ ((!true) = true → false = true) ∧ ((!true) = false → (decide ((↑(List.length c) : Int) ≤ (60 : Int)) = true → (decide ((↑(List.length l) : Int) ≤ (66 : Int)) = true →
  List.length l ≤ (1000000 : Nat) ∧ ∀ (y : List Int), y = stackF l → List.length c ≤ (1000000 : Nat) ∧ ∀ (y_1 : List Int), y_1 = progF c → ((0 : Nat) + (1 : Nat) ≤ (2 : Nat) ∧ OkV
  (Val.mk (3 : Int) (0 : Int) [] [Val.mk (1 : Int) n [] [], Val.mk (2 : Int) (0 : Int) [List.getD y (0 : Nat) (0 : Int), List.getD y (1 : Nat) (0 : Int), List.getD y (2 : Nat) (0 :
  Int), List.getD y (3 : Nat) (0 : Int), List.getD y (4 : Nat) (0 : Int), List.getD y (5 : Nat) (0 : Int), List.getD y (6 : Nat) (0 : Int), List.getD y (7 : Nat) (0 : Int), List.getD
  y (8 : Nat) (0 : Int), List.getD y (9 : Nat) (0 : Int), List.getD y (10 : Nat) (0 : Int), List.getD y (11 : Nat) (0 : Int), List.getD y (12 : Nat) (0 : Int), List.getD y (13 : Nat)
  (0 : Int), List.getD y (14 : Nat) (0 : Int), List.getD y (15 : Nat) (0 : Int), List.getD y (16 : Nat) (0 : Int), List.getD y (17 : Nat) (0 : Int), List.getD y (18 : Nat) (0 : Int),
  List.getD y (19 : Nat) (0 : Int), List.getD y (20 : Nat) (0 : Int), List.getD y (21 : Nat) (0 : Int), List.getD y (22 : Nat) (0 : Int), List.getD y (23 : Nat) (0 : Int), List.getD
  y (24 : Nat) (0 : Int), List.getD y (25 : Nat) (0 : Int), List.getD y (26 : Nat) (0 : Int), List.getD y (27 : Nat) (0 : Int), List.getD y (28 : Nat) (0 : Int), List.getD y (29 :
  Nat) (0 : Int), List.getD y (30 : Nat) (0 : Int), List.getD y (31 : Nat) (0 : Int)] []])) ∧ ∀ (y_2 : List Int × Int), y_2 = valueF (0 : Nat) (Val.mk (3 : Int) (0 : Int) [] [Val.mk
  (1 : Int) n [] [], Val.mk (2 : Int) (0 : Int) [List.getD y (0 : Nat) (0 : Int), List.getD y (1 : Nat) (0 : Int), List.getD y (2 : Nat) (0 : Int), List.getD y (3 : Nat) (0 : Int),
  List.getD y (4 : Nat) (0 : Int), List.getD y (5 : Nat) (0 : Int), List.getD y (6 : Nat) (0 : Int), List.getD y (7 : Nat) (0 : Int), List.getD y (8 : Nat) (0 : Int), List.getD y (9
  : Nat) (0 : Int), List.getD y (10 : Nat) (0 : Int), List.getD y (11 : Nat) (0 : Int), List.getD y (12 : Nat) (0 : Int), List.getD y (13 : Nat) (0 : Int), List.getD y (14 : Nat) (0
  : Int), List.getD y (15 : Nat) (0 : Int), List.getD y (16 : Nat) (0 : Int), List.getD y (17 : Nat) (0 : Int), List.getD y (18 : Nat) (0 : Int), List.getD y (19 : Nat) (0 : Int),
  List.getD y (20 : Nat) (0 : Int), List.getD y (21 : Nat) (0 : Int), List.getD y (22 : Nat) (0 : Int), List.getD y (23 : Nat) (0 : Int), List.getD y (24 : Nat) (0 : Int), List.getD
  y (25 : Nat) (0 : Int), List.getD y (26 : Nat) (0 : Int), List.getD y (27 : Nat) (0 : Int), List.getD y (28 : Nat) (0 : Int), List.getD y (29 : Nat) (0 : Int), List.getD y (30 :
  Nat) (0 : Int), List.getD y (31 : Nat) (0 : Int)] []]) → ((0 : Nat) + (1 : Nat) + (1 : Nat) ≤ (2 : Nat) ∧ OkV (Val.mk (3 : Int) (0 : Int) [] [Val.mk (1 : Int) (Ins.op x) [] [],
  Val.mk (1 : Int) (Ins.n x) [] [], Val.mk (1 : Int) (Ins.m x) [] [], Val.mk (2 : Int) (0 : Int) [List.getD y_1 (0 : Nat) (0 : Int), List.getD y_1 (1 : Nat) (0 : Int), List.getD y_1
  (2 : Nat) (0 : Int), List.getD y_1 (3 : Nat) (0 : Int), List.getD y_1 (4 : Nat) (0 : Int), List.getD y_1 (5 : Nat) (0 : Int), List.getD y_1 (6 : Nat) (0 : Int), List.getD y_1 (7 :
  Nat) (0 : Int), List.getD y_1 (8 : Nat) (0 : Int), List.getD y_1 (9 : Nat) (0 : Int), List.getD y_1 (10 : Nat) (0 : Int), List.getD y_1 (11 : Nat) (0 : Int), List.getD y_1 (12 :
  Nat) (0 : Int), List.getD y_1 (13 : Nat) (0 : Int), List.getD y_1 (14 : Nat) (0 : Int), List.getD y_1 (15 : Nat) (0 : Int), List.getD y_1 (16 : Nat) (0 : Int), List.getD y_1 (17 :
  Nat) (0 : Int), List.getD y_1 (18 : Nat) (0 : Int), List.getD y_1 (19 : Nat) (0 : Int), List.getD y_1 (20 : Nat) (0 : Int), List.getD y_1 (21 : Nat) (0 : Int), List.getD y_1 (22 :
  Nat) (0 : Int), List.getD y_1 (23 : Nat) (0 : Int), List.getD y_1 (24 : Nat) (0 : Int), List.getD y_1 (25 : Nat) (0 : Int), List.getD y_1 (26 : Nat) (0 : Int), List.getD y_1 (27 :
  Nat) (0 : Int), List.getD y_1 (28 : Nat) (0 : Int), List.getD y_1 (29 : Nat) (0 : Int), List.getD y_1 (30 : Nat) (0 : Int), List.getD y_1 (31 : Nat) (0 : Int)] []])) ∧ ∀ (y : List
  Int × Int), y = valueF ((0 : Nat) + (1 : Nat)) (Val.mk (3 : Int) (0 : Int) [] [Val.mk (1 : Int) (Ins.op x) [] [], Val.mk (1 : Int) (Ins.n x) [] [], Val.mk (1 : Int) (Ins.m x) []
  [], Val.mk (2 : Int) (0 : Int) [List.getD y_1 (0 : Nat) (0 : Int), List.getD y_1 (1 : Nat) (0 : Int), List.getD y_1 (2 : Nat) (0 : Int), List.getD y_1 (3 : Nat) (0 : Int),
  List.getD y_1 (4 : Nat) (0 : Int), List.getD y_1 (5 : Nat) (0 : Int), List.getD y_1 (6 : Nat) (0 : Int), List.getD y_1 (7 : Nat) (0 : Int), List.getD y_1 (8 : Nat) (0 : Int),
  List.getD y_1 (9 : Nat) (0 : Int), List.getD y_1 (10 : Nat) (0 : Int), List.getD y_1 (11 : Nat) (0 : Int), List.getD y_1 (12 : Nat) (0 : Int), List.getD y_1 (13 : Nat) (0 : Int),
  List.getD y_1 (14 : Nat) (0 : Int), List.getD y_1 (15 : Nat) (0 : Int), List.getD y_1 (16 : Nat) (0 : Int), List.getD y_1 (17 : Nat) (0 : Int), List.getD y_1 (18 : Nat) (0 : Int),
  List.getD y_1 (19 : Nat) (0 : Int), List.getD y_1 (20 : Nat) (0 : Int), List.getD y_1 (21 : Nat) (0 : Int), List.getD y_1 (22 : Nat) (0 : Int), List.getD y_1 (23 : Nat) (0 : Int),
  List.getD y_1 (24 : Nat) (0 : Int), List.getD y_1 (25 : Nat) (0 : Int), List.getD y_1 (26 : Nat) (0 : Int), List.getD y_1 (27 : Nat) (0 : Int), List.getD y_1 (28 : Nat) (0 : Int),
  List.getD y_1 (29 : Nat) (0 : Int), List.getD y_1 (30 : Nat) (0 : Int), List.getD y_1 (31 : Nat) (0 : Int)] []]) → (c = [] → ((Prod.snd y_2 == (0 : Int)) = true → ((Prod.snd y ==
  (0 : Int)) = true → (l = [] → (0 : Nat) + ((0 : Nat) + (1 : Nat)) ≤ List.length ([] ++ [n]) ∧ List.length (List.take ((0 : Nat) + (1 : Nat)) (List.drop (0 : Nat) ([] ++ [n]))) ≤
  (1000000 : Nat) ∧ ∀ (y_3 : List Int), y_3 = stackF (List.take ((0 : Nat) + (1 : Nat)) (List.drop (0 : Nat) ([] ++ [n]))) → ∀ (v : Bool), v = (List.getD y_3 (0 : Nat) (0 : Int) ==
  List.getD (Prod.fst y_2) (0 : Nat) (0 : Int) && (List.getD y_3 (1 : Nat) (0 : Int) == List.getD (Prod.fst y_2) (1 : Nat) (0 : Int) && (List.getD y_3 (2 : Nat) (0 : Int) ==
  List.getD (Prod.fst y_2) (2 : Nat) (0 : Int) && (List.getD y_3 (3 : Nat) (0 : Int) == List.getD (Prod.fst y_2) (3 : Nat) (0 : Int) && (List.getD y_3 (4 : Nat) (0 : Int) ==
  List.getD (Prod.fst y_2) (4 : Nat) (0 : Int) && (List.getD y_3 (5 : Nat) (0 : Int) == List.getD (Prod.fst y_2) (5 : Nat) (0 : Int) && (List.getD y_3 (6 : Nat) (0 : Int) ==
  List.getD (Prod.fst y_2) (6 : Nat) (0 : Int) && (List.getD y_3 (7 : Nat) (0 : Int) == List.getD (Prod.fst y_2) (7 : Nat) (0 : Int) && (List.getD y_3 (8 : Nat) (0 : Int) ==
  List.getD (Prod.fst y_2) (8 : Nat) (0 : Int) && (List.getD y_3 (9 : Nat) (0 : Int) == List.getD (Prod.fst y_2) (9 : Nat) (0 : Int) && (List.getD y_3 (10 : Nat) (0 : Int) ==
  List.getD (Prod.fst y_2) (10 : Nat) (0 : Int) && (List.getD y_3 (11 : Nat) (0 : Int) == List.getD (Prod.fst y_2) (11 : Nat) (0 : Int) && (List.getD y_3 (12 : Nat) (0 : Int) ==
  List.getD (Prod.fst y_2) (12 : Nat) (0 : Int) && (List.getD y_3 (13 : Nat) (0 : Int) == List.getD (Prod.fst y_2) (13 : Nat) (0 : Int) && (List.getD y_3 (14 : Nat) (0 : Int) ==
  List.getD (Prod.fst y_2) (14 : Nat) (0 : Int) && (List.getD y_3 (15 : Nat) (0 : Int) == List.getD (Prod.fst y_2) (15 : Nat) (0 : Int) && (List.getD y_3 (16 : Nat) (0 : Int) ==
  List.getD (Prod.fst y_2) (16 : Nat) (0 : Int) && (List.getD y_3 (17 : Nat) (0 : Int) == List.getD (Prod.fst y_2) (17 : Nat) (0 : Int) && (List.getD y_3 (18 : Nat) (0 : Int) ==
  List.getD (Prod.fst y_2) (18 : Nat) (0 : Int) && (List.getD y_3 (19 : Nat) (0 : Int) == List.getD (Prod.fst y_2) (19 : Nat) (0 : Int) && (List.getD y_3 (20 : Nat) (0 : Int) ==
  List.getD (Prod.fst y_2) (20 : Nat) (0 : Int) && (List.getD y_3 (21 : Nat) (0 : Int) == List.getD (Prod.fst y_2) (21 : Nat) (0 : Int) && (List.getD y_3 (22 : Nat) (0 : Int) ==
  List.getD (Prod.fst y_2) (22 : Nat) (0 : Int) && (List.getD y_3 (23 : Nat) (0 : Int) == List.getD (Prod.fst y_2) (23 : Nat) (0 : Int) && (List.getD y_3 (24 : Nat) (0 : Int) ==
  List.getD (Prod.fst y_2) (24 : Nat) (0 : Int) && (List.getD y_3 (25 : Nat) (0 : Int) == List.getD (Prod.fst y_2) (25 : Nat) (0 : Int) && (List.getD y_3 (26 : Nat) (0 : Int) ==
  List.getD (Prod.fst y_2) (26 : Nat) (0 : Int) && (List.getD y_3 (27 : Nat) (0 : Int) == List.getD (Prod.fst y_2) (27 : Nat) (0 : Int) && (List.getD y_3 (28 : Nat) (0 : Int) ==
  List.getD (Prod.fst y_2) (28 : Nat) (0 : Int) && (List.getD y_3 (29 : Nat) (0 : Int) == List.getD (Prod.fst y_2) (29 : Nat) (0 : Int) && (List.getD y_3 (30 : Nat) (0 : Int) ==
  List.getD (Prod.fst y_2) (30 : Nat) (0 : Int) && (List.getD y_3 (31 : Nat) (0 : Int) == List.getD (Prod.fst y_2) (31 : Nat) (0 : Int) && true)))))))))))))))))))))))))))))))) → (v =
  true → (0 : Nat) + ((0 : Nat) + (1 : Nat)) ≤ List.length ([] ++ [x]) ∧ List.length (List.take ((0 : Nat) + (1 : Nat)) (List.drop (0 : Nat) ([] ++ [x]))) ≤ (1000000 : Nat) ∧ ∀ (y_4
  : List Int), y_4 = progF (List.take ((0 : Nat) + (1 : Nat)) (List.drop (0 : Nat) ([] ++ [x]))) → ∀ (v : Bool), v = (List.getD y_4 (0 : Nat) (0 : Int) == List.getD (Prod.fst y) (0 :
  Nat) (0 : Int) && (List.getD y_4 (1 : Nat) (0 : Int) == List.getD (Prod.fst y) (1 : Nat) (0 : Int) && (List.getD y_4 (2 : Nat) (0 : Int) == List.getD (Prod.fst y) (2 : Nat) (0 :
  Int) && (List.getD y_4 (3 : Nat) (0 : Int) == List.getD (Prod.fst y) (3 : Nat) (0 : Int) && (List.getD y_4 (4 : Nat) (0 : Int) == List.getD (Prod.fst y) (4 : Nat) (0 : Int) &&
  (List.getD y_4 (5 : Nat) (0 : Int) == List.getD (Prod.fst y) (5 : Nat) (0 : Int) && (List.getD y_4 (6 : Nat) (0 : Int) == List.getD (Prod.fst y) (6 : Nat) (0 : Int) && (List.getD
  y_4 (7 : Nat) (0 : Int) == List.getD (Prod.fst y) (7 : Nat) (0 : Int) && (List.getD y_4 (8 : Nat) (0 : Int) == List.getD (Prod.fst y) (8 : Nat) (0 : Int) && (List.getD y_4 (9 :
  Nat) (0 : Int) == List.getD (Prod.fst y) (9 : Nat) (0 : Int) && (List.getD y_4 (10 : Nat) (0 : Int) == List.getD (Prod.fst y) (10 : Nat) (0 : Int) && (List.getD y_4 (11 : Nat) (0 :
  Int) == List.getD (Prod.fst y) (11 : Nat) (0 : Int) && (List.getD y_4 (12 : Nat) (0 : Int) == List.getD (Prod.fst y) (12 : Nat) (0 : Int) && (List.getD y_4 (13 : Nat) (0 : Int) ==
  List.getD (Prod.fst y) (13 : Nat) (0 : Int) && (List.getD y_4 (14 : Nat) (0 : Int) == List.getD (Prod.fst y) (14 : Nat) (0 : Int) && (List.getD y_4 (15 : Nat) (0 : Int) ==
  List.getD (Prod.fst y) (15 : Nat) (0 : Int) && (List.getD y_4 (16 : Nat) (0 : Int) == List.getD (Prod.fst y) (16 : Nat) (0 : Int) && (List.getD y_4 (17 : Nat) (0 : Int) ==
  List.getD (Prod.fst y) (17 : Nat) (0 : Int) && (List.getD y_4 (18 : Nat) (0 : Int) == List.getD (Prod.fst y) (18 : Nat) (0 : Int) && (List.getD y_4 (19 : Nat) (0 : Int) ==
  List.getD (Prod.fst y) (19 : Nat) (0 : Int) && (List.getD y_4 (20 : Nat) (0 : Int) == List.getD (Prod.fst y) (20 : Nat) (0 : Int) && (List.getD y_4 (21 : Nat) (0 : Int) ==
  List.getD (Prod.fst y) (21 : Nat) (0 : Int) && (List.getD y_4 (22 : Nat) (0 : Int) == List.getD (Prod.fst y) (22 : Nat) (0 : Int) && (List.getD y_4 (23 : Nat) (0 : Int) ==
  List.getD (Prod.fst y) (23 : Nat) (0 : Int) && (List.getD y_4 (24 : Nat) (0 : Int) == List.getD (Prod.fst y) (24 : Nat) (0 : Int) && (List.getD y_4 (25 : Nat) (0 : Int) ==
  List.getD (Prod.fst y) (25 : Nat) (0 : Int) && (List.getD y_4 (26 : Nat) (0 : Int) == List.getD (Prod.fst y) (26 : Nat) (0 : Int) && (List.getD y_4 (27 : Nat) (0 : Int) ==
  List.getD (Prod.fst y) (27 : Nat) (0 : Int) && (List.getD y_4 (28 : Nat) (0 : Int) == List.getD (Prod.fst y) (28 : Nat) (0 : Int) && (List.getD y_4 (29 : Nat) (0 : Int) ==
  List.getD (Prod.fst y) (29 : Nat) (0 : Int) && (List.getD y_4 (30 : Nat) (0 : Int) == List.getD (Prod.fst y) (30 : Nat) (0 : Int) && (List.getD y_4 (31 : Nat) (0 : Int) ==
  List.getD (Prod.fst y) (31 : Nat) (0 : Int) && true)))))))))))))))))))))))))))))))) → (v = true → (0 : Nat) ≤ (1000000 : Nat) ∧ ∀ (y : List Int), y = stackF [] → ∀ (v : Bool), v =
  (List.getD y (0 : Nat) (0 : Int) == (0 : Int) && (List.getD y (1 : Nat) (0 : Int) == (0 : Int) && (List.getD y (2 : Nat) (0 : Int) == (0 : Int) && (List.getD y (3 : Nat) (0 : Int)
  == (0 : Int) && (List.getD y (4 : Nat) (0 : Int) == (0 : Int) && (List.getD y (5 : Nat) (0 : Int) == (0 : Int) && (List.getD y (6 : Nat) (0 : Int) == (0 : Int) && (List.getD y (7 :
  Nat) (0 : Int) == (0 : Int) && (List.getD y (8 : Nat) (0 : Int) == (0 : Int) && (List.getD y (9 : Nat) (0 : Int) == (0 : Int) && (List.getD y (10 : Nat) (0 : Int) == (0 : Int) &&
  (List.getD y (11 : Nat) (0 : Int) == (0 : Int) && (List.getD y (12 : Nat) (0 : Int) == (0 : Int) && (List.getD y (13 : Nat) (0 : Int) == (0 : Int) && (List.getD y (14 : Nat) (0 :
  Int) == (0 : Int) && (List.getD y (15 : Nat) (0 : Int) == (0 : Int) && (List.getD y (16 : Nat) (0 : Int) == (0 : Int) && (List.getD y (17 : Nat) (0 : Int) == (0 : Int) &&
  (List.getD y (18 : Nat) (0 : Int) == (0 : Int) && (List.getD y (19 : Nat) (0 : Int) == (0 : Int) && (List.getD y (20 : Nat) (0 : Int) == (0 : Int) && (List.getD y (21 : Nat) (0 :
  Int) == (0 : Int) && (List.getD y (22 : Nat) (0 : Int) == (0 : Int) && (List.getD y (23 : Nat) (0 : Int) == (0 : Int) && (List.getD y (24 : Nat) (0 : Int) == (0 : Int) &&
  (List.getD y (25 : Nat) (0 : Int) == (0 : Int) && (List.getD y (26 : Nat) (0 : Int) == (0 : Int) && (List.getD y (27 : Nat) (0 : Int) == (0 : Int) && (List.getD y (28 : Nat) (0 :
  Int) == (0 : Int) && (List.getD y (29 : Nat) (0 : Int) == (0 : Int) && (List.getD y (30 : Nat) (0 : Int) == (0 : Int) && (List.getD y (31 : Nat) (0 : Int) == (0 : Int) &&
  true)))))))))))))))))))))))))))))))) → (v = true → (0 : Nat) ≤ (1000000 : Nat) ∧ ∀ (y : List Int), y = progF [] → ∀ (v : Bool), v = (List.getD y (0 : Nat) (0 : Int) == (0 : Int) &&
  (List.getD y (1 : Nat) (0 : Int) == (0 : Int) && (List.getD y (2 : Nat) (0 : Int) == (0 : Int) && (List.getD y (3 : Nat) (0 : Int) == (0 : Int) && (List.getD y (4 : Nat) (0 : Int)
  == (0 : Int) && (List.getD y (5 : Nat) (0 : Int) == (0 : Int) && (List.getD y (6 : Nat) (0 : Int) == (0 : Int) && (List.getD y (7 : Nat) (0 : Int) == (0 : Int) && (List.getD y (8 :
  Nat) (0 : Int) == (0 : Int) && (List.getD y (9 : Nat) (0 : Int) == (0 : Int) && (List.getD y (10 : Nat) (0 : Int) == (0 : Int) && (List.getD y (11 : Nat) (0 : Int) == (0 : Int) &&
  (List.getD y (12 : Nat) (0 : Int) == (0 : Int) && (List.getD y (13 : Nat) (0 : Int) == (0 : Int) && (List.getD y (14 : Nat) (0 : Int) == (0 : Int) && (List.getD y (15 : Nat) (0 :
  Int) == (0 : Int) && (List.getD y (16 : Nat) (0 : Int) == (0 : Int) && (List.getD y (17 : Nat) (0 : Int) == (0 : Int) && (List.getD y (18 : Nat) (0 : Int) == (0 : Int) &&
  (List.getD y (19 : Nat) (0 : Int) == (0 : Int) && (List.getD y (20 : Nat) (0 : Int) == (0 : Int) && (List.getD y (21 : Nat) (0 : Int) == (0 : Int) && (List.getD y (22 : Nat) (0 :
  Int) == (0 : Int) && (List.getD y (23 : Nat) (0 : Int) == (0 : Int) && (List.getD y (24 : Nat) (0 : Int) == (0 : Int) && (List.getD y (25 : Nat) (0 : Int) == (0 : Int) &&
  (List.getD y (26 : Nat) (0 : Int) == (0 : Int) && (List.getD y (27 : Nat) (0 : Int) == (0 : Int) && (List.getD y (28 : Nat) (0 : Int) == (0 : Int) && (List.getD y (29 : Nat) (0 :
  Int) == (0 : Int) && (List.getD y (30 : Nat) (0 : Int) == (0 : Int) && (List.getD y (31 : Nat) (0 : Int) == (0 : Int) && true)))))))))))))))))))))))))))))))) → (v = true → true =
  true) ∧ (v = false → false = true)) ∧ (v = false → false = true)) ∧ (v = false → false = true)) ∧ (v = false → false = true)) ∧ (l ≠ [] → ((0 : Nat) + (1 : Nat) ≤ (0 : Nat) +
  List.length l ∧ ((0 : Nat) + List.length l) * (8 : Nat) ≤ (140737488355328 : Nat)) ∧ ((0 : Nat) + List.length l ≤ List.length ([] ++ l) ∧ (0 : Nat) ≤ (0 : Nat) + List.length l ∧
  ((0 : Nat) + List.length l + (1 : Nat)) * (8 : Nat) ≤ (140737488355328 : Nat)) ∧ (0 : Nat) + ((0 : Nat) + List.length l + (1 : Nat)) ≤ List.length (List.take ((0 : Nat) +
  List.length l) ([] ++ l) ++ [n]) ∧ List.length (List.take ((0 : Nat) + List.length l + (1 : Nat)) (List.drop (0 : Nat) (List.take ((0 : Nat) + List.length l) ([] ++ l) ++ [n]))) ≤
  (1000000 : Nat) ∧ ∀ (y_3 : List Int), y_3 = stackF (List.take ((0 : Nat) + List.length l + (1 : Nat)) (List.drop (0 : Nat) (List.take ((0 : Nat) + List.length l) ([] ++ l) ++
  [n]))) → ∀ (v : Bool), v = (List.getD y_3 (0 : Nat) (0 : Int) == List.getD (Prod.fst y_2) (0 : Nat) (0 : Int) && (List.getD y_3 (1 : Nat) (0 : Int) == List.getD (Prod.fst y_2) (1 :
  Nat) (0 : Int) && (List.getD y_3 (2 : Nat) (0 : Int) == List.getD (Prod.fst y_2) (2 : Nat) (0 : Int) && (List.getD y_3 (3 : Nat) (0 : Int) == List.getD (Prod.fst y_2) (3 : Nat) (0
  : Int) && (List.getD y_3 (4 : Nat) (0 : Int) == List.getD (Prod.fst y_2) (4 : Nat) (0 : Int) && (List.getD y_3 (5 : Nat) (0 : Int) == List.getD (Prod.fst y_2) (5 : Nat) (0 : Int)
  && (List.getD y_3 (6 : Nat) (0 : Int) == List.getD (Prod.fst y_2) (6 : Nat) (0 : Int) && (List.getD y_3 (7 : Nat) (0 : Int) == List.getD (Prod.fst y_2) (7 : Nat) (0 : Int) &&
  (List.getD y_3 (8 : Nat) (0 : Int) == List.getD (Prod.fst y_2) (8 : Nat) (0 : Int) && (List.getD y_3 (9 : Nat) (0 : Int) == List.getD (Prod.fst y_2) (9 : Nat) (0 : Int) &&
  (List.getD y_3 (10 : Nat) (0 : Int) == List.getD (Prod.fst y_2) (10 : Nat) (0 : Int) && (List.getD y_3 (11 : Nat) (0 : Int) == List.getD (Prod.fst y_2) (11 : Nat) (0 : Int) &&
  (List.getD y_3 (12 : Nat) (0 : Int) == List.getD (Prod.fst y_2) (12 : Nat) (0 : Int) && (List.getD y_3 (13 : Nat) (0 : Int) == List.getD (Prod.fst y_2) (13 : Nat) (0 : Int) &&
  (List.getD y_3 (14 : Nat) (0 : Int) == List.getD (Prod.fst y_2) (14 : Nat) (0 : Int) && (List.getD y_3 (15 : Nat) (0 : Int) == List.getD (Prod.fst y_2) (15 : Nat) (0 : Int) &&
  (List.getD y_3 (16 : Nat) (0 : Int) == List.getD (Prod.fst y_2) (16 : Nat) (0 : Int) && (List.getD y_3 (17 : Nat) (0 : Int) == List.getD (Prod.fst y_2) (17 : Nat) (0 : Int) &&
  (List.getD y_3 (18 : Nat) (0 : Int) == List.getD (Prod.fst y_2) (18 : Nat) (0 : Int) && (List.getD y_3 (19 : Nat) (0 : Int) == List.getD (Prod.fst y_2) (19 : Nat) (0 : Int) &&
  (List.getD y_3 (20 : Nat) (0 : Int) == List.getD (Prod.fst y_2) (20 : Nat) (0 : Int) && (List.getD y_3 (21 : Nat) (0 : Int) == List.getD (Prod.fst y_2) (21 : Nat) (0 : Int) &&
  (List.getD y_3 (22 : Nat) (0 : Int) == List.getD (Prod.fst y_2) (22 : Nat) (0 : Int) && (List.getD y_3 (23 : Nat) (0 : Int) == List.getD (Prod.fst y_2) (23 : Nat) (0 : Int) &&
  (List.getD y_3 (24 : Nat) (0 : Int) == List.getD (Prod.fst y_2) (24 : Nat) (0 : Int) && (List.getD y_3 (25 : Nat) (0 : Int) == List.getD (Prod.fst y_2) (25 : Nat) (0 : Int) &&
  (List.getD y_3 (26 : Nat) (0 : Int) == List.getD (Prod.fst y_2) (26 : Nat) (0 : Int) && (List.getD y_3 (27 : Nat) (0 : Int) == List.getD (Prod.fst y_2) (27 : Nat) (0 : Int) &&
  (List.getD y_3 (28 : Nat) (0 : Int) == List.getD (Prod.fst y_2) (28 : Nat) (0 : Int) && (List.getD y_3 (29 : Nat) (0 : Int) == List.getD (Prod.fst y_2) (29 : Nat) (0 : Int) &&
  (List.getD y_3 (30 : Nat) (0 : Int) == List.getD (Prod.fst y_2) (30 : Nat) (0 : Int) && (List.getD y_3 (31 : Nat) (0 : Int) == List.getD (Prod.fst y_2) (31 : Nat) (0 : Int) &&
  true)))))))))))))))))))))))))))))))) → (v = true → (0 : Nat) + ((0 : Nat) + (1 : Nat)) ≤ List.length ([] ++ [x]) ∧ List.length (List.take ((0 : Nat) + (1 : Nat)) (List.drop (0 :
  Nat) ([] ++ [x]))) ≤ (1000000 : Nat) ∧ ∀ (y_4 : List Int), y_4 = progF (List.take ((0 : Nat) + (1 : Nat)) (List.drop (0 : Nat) ([] ++ [x]))) → ∀ (v : Bool), v = (List.getD y_4 (0 :
  Nat) (0 : Int) == List.getD (Prod.fst y) (0 : Nat) (0 : Int) && (List.getD y_4 (1 : Nat) (0 : Int) == List.getD (Prod.fst y) (1 : Nat) (0 : Int) && (List.getD y_4 (2 : Nat) (0 :
  Int) == List.getD (Prod.fst y) (2 : Nat) (0 : Int) && (List.getD y_4 (3 : Nat) (0 : Int) == List.getD (Prod.fst y) (3 : Nat) (0 : Int) && (List.getD y_4 (4 : Nat) (0 : Int) ==
  List.getD (Prod.fst y) (4 : Nat) (0 : Int) && (List.getD y_4 (5 : Nat) (0 : Int) == List.getD (Prod.fst y) (5 : Nat) (0 : Int) && (List.getD y_4 (6 : Nat) (0 : Int) == List.getD
  (Prod.fst y) (6 : Nat) (0 : Int) && (List.getD y_4 (7 : Nat) (0 : Int) == List.getD (Prod.fst y) (7 : Nat) (0 : Int) && (List.getD y_4 (8 : Nat) (0 : Int) == List.getD (Prod.fst y)
  (8 : Nat) (0 : Int) && (List.getD y_4 (9 : Nat) (0 : Int) == List.getD (Prod.fst y) (9 : Nat) (0 : Int) && (List.getD y_4 (10 : Nat) (0 : Int) == List.getD (Prod.fst y) (10 : Nat)
  (0 : Int) && (List.getD y_4 (11 : Nat) (0 : Int) == List.getD (Prod.fst y) (11 : Nat) (0 : Int) && (List.getD y_4 (12 : Nat) (0 : Int) == List.getD (Prod.fst y) (12 : Nat) (0 :
  Int) && (List.getD y_4 (13 : Nat) (0 : Int) == List.getD (Prod.fst y) (13 : Nat) (0 : Int) && (List.getD y_4 (14 : Nat) (0 : Int) == List.getD (Prod.fst y) (14 : Nat) (0 : Int) &&
  (List.getD y_4 (15 : Nat) (0 : Int) == List.getD (Prod.fst y) (15 : Nat) (0 : Int) && (List.getD y_4 (16 : Nat) (0 : Int) == List.getD (Prod.fst y) (16 : Nat) (0 : Int) &&
  (List.getD y_4 (17 : Nat) (0 : Int) == List.getD (Prod.fst y) (17 : Nat) (0 : Int) && (List.getD y_4 (18 : Nat) (0 : Int) == List.getD (Prod.fst y) (18 : Nat) (0 : Int) &&
  (List.getD y_4 (19 : Nat) (0 : Int) == List.getD (Prod.fst y) (19 : Nat) (0 : Int) && (List.getD y_4 (20 : Nat) (0 : Int) == List.getD (Prod.fst y) (20 : Nat) (0 : Int) &&
  (List.getD y_4 (21 : Nat) (0 : Int) == List.getD (Prod.fst y) (21 : Nat) (0 : Int) && (List.getD y_4 (22 : Nat) (0 : Int) == List.getD (Prod.fst y) (22 : Nat) (0 : Int) &&
  (List.getD y_4 (23 : Nat) (0 : Int) == List.getD (Prod.fst y) (23 : Nat) (0 : Int) && (List.getD y_4 (24 : Nat) (0 : Int) == List.getD (Prod.fst y) (24 : Nat) (0 : Int) &&
  (List.getD y_4 (25 : Nat) (0 : Int) == List.getD (Prod.fst y) (25 : Nat) (0 : Int) && (List.getD y_4 (26 : Nat) (0 : Int) == List.getD (Prod.fst y) (26 : Nat) (0 : Int) &&
  (List.getD y_4 (27 : Nat) (0 : Int) == List.getD (Prod.fst y) (27 : Nat) (0 : Int) && (List.getD y_4 (28 : Nat) (0 : Int) == List.getD (Prod.fst y) (28 : Nat) (0 : Int) &&
  (List.getD y_4 (29 : Nat) (0 : Int) == List.getD (Prod.fst y) (29 : Nat) (0 : Int) && (List.getD y_4 (30 : Nat) (0 : Int) == List.getD (Prod.fst y) (30 : Nat) (0 : Int) &&
  (List.getD y_4 (31 : Nat) (0 : Int) == List.getD (Prod.fst y) (31 : Nat) (0 : Int) && true)))))))))))))))))))))))))))))))) → (v = true → (0 : Nat) ≤ (1000000 : Nat) ∧ ∀ (y : List
  Int), y = stackF [] → ∀ (v : Bool), v = (List.getD y (0 : Nat) (0 : Int) == (0 : Int) && (List.getD y (1 : Nat) (0 : Int) == (0 : Int) && (List.getD y (2 : Nat) (0 : Int) == (0 :
  Int) && (List.getD y (3 : Nat) (0 : Int) == (0 : Int) && (List.getD y (4 : Nat) (0 : Int) == (0 : Int) && (List.getD y (5 : Nat) (0 : Int) == (0 : Int) && (List.getD y (6 : Nat) (0
  : Int) == (0 : Int) && (List.getD y (7 : Nat) (0 : Int) == (0 : Int) && (List.getD y (8 : Nat) (0 : Int) == (0 : Int) && (List.getD y (9 : Nat) (0 : Int) == (0 : Int) && (List.getD
  y (10 : Nat) (0 : Int) == (0 : Int) && (List.getD y (11 : Nat) (0 : Int) == (0 : Int) && (List.getD y (12 : Nat) (0 : Int) == (0 : Int) && (List.getD y (13 : Nat) (0 : Int) == (0 :
  Int) && (List.getD y (14 : Nat) (0 : Int) == (0 : Int) && (List.getD y (15 : Nat) (0 : Int) == (0 : Int) && (List.getD y (16 : Nat) (0 : Int) == (0 : Int) && (List.getD y (17 :
  Nat) (0 : Int) == (0 : Int) && (List.getD y (18 : Nat) (0 : Int) == (0 : Int) && (List.getD y (19 : Nat) (0 : Int) == (0 : Int) && (List.getD y (20 : Nat) (0 : Int) == (0 : Int) &&
  (List.getD y (21 : Nat) (0 : Int) == (0 : Int) && (List.getD y (22 : Nat) (0 : Int) == (0 : Int) && (List.getD y (23 : Nat) (0 : Int) == (0 : Int) && (List.getD y (24 : Nat) (0 :
  Int) == (0 : Int) && (List.getD y (25 : Nat) (0 : Int) == (0 : Int) && (List.getD y (26 : Nat) (0 : Int) == (0 : Int) && (List.getD y (27 : Nat) (0 : Int) == (0 : Int) &&
  (List.getD y (28 : Nat) (0 : Int) == (0 : Int) && (List.getD y (29 : Nat) (0 : Int) == (0 : Int) && (List.getD y (30 : Nat) (0 : Int) == (0 : Int) && (List.getD y (31 : Nat) (0 :
  Int) == (0 : Int) && true)))))))))))))))))))))))))))))))) → (v = true → (0 : Nat) ≤ (1000000 : Nat) ∧ ∀ (y : List Int), y = progF [] → ∀ (v : Bool), v = (List.getD y (0 : Nat) (0 :
  Int) == (0 : Int) && (List.getD y (1 : Nat) (0 : Int) == (0 : Int) && (List.getD y (2 : Nat) (0 : Int) == (0 : Int) && (List.getD y (3 : Nat) (0 : Int) == (0 : Int) && (List.getD y
  (4 : Nat) (0 : Int) == (0 : Int) && (List.getD y (5 : Nat) (0 : Int) == (0 : Int) && (List.getD y (6 : Nat) (0 : Int) == (0 : Int) && (List.getD y (7 : Nat) (0 : Int) == (0 : Int)
  && (List.getD y (8 : Nat) (0 : Int) == (0 : Int) && (List.getD y (9 : Nat) (0 : Int) == (0 : Int) && (List.getD y (10 : Nat) (0 : Int) == (0 : Int) && (List.getD y (11 : Nat) (0 :
  Int) == (0 : Int) && (List.getD y (12 : Nat) (0 : Int) == (0 : Int) && (List.getD y (13 : Nat) (0 : Int) == (0 : Int) && (List.getD y (14 : Nat) (0 : Int) == (0 : Int) &&
  (List.getD y (15 : Nat) (0 : Int) == (0 : Int) && (List.getD y (16 : Nat) (0 : Int) == (0 : Int) && (List.getD y (17 : Nat) (0 : Int) == (0 : Int) && (List.getD y (18 : Nat) (0 :
  Int) == (0 : Int) && (List.getD y (19 : Nat) (0 : Int) == (0 : Int) && (List.getD y (20 : Nat) (0 : Int) == (0 : Int) && (List.getD y (21 : Nat) (0 : Int) == (0 : Int) &&
  (List.getD y (22 : Nat) (0 : Int) == (0 : Int) && (List.getD y (23 : Nat) (0 : Int) == (0 : Int) && (List.getD y (24 : Nat) (0 : Int) == (0 : Int) && (List.getD y (25 : Nat) (0 :
  Int) == (0 : Int) && (List.getD y (26 : Nat) (0 : Int) == (0 : Int) && (List.getD y (27 : Nat) (0 : Int) == (0 : Int) && (List.getD y (28 : Nat) (0 : Int) == (0 : Int) &&
  (List.getD y (29 : Nat) (0 : Int) == (0 : Int) && (List.getD y (30 : Nat) (0 : Int) == (0 : Int) && (List.getD y (31 : Nat) (0 : Int) == (0 : Int) &&
  true)))))))))))))))))))))))))))))))) → (v = true → true = true) ∧ (v = false → false = true)) ∧ (v = false → false = true)) ∧ (v = false → false = true)) ∧ (v = false → false =
  true))) ∧ ((Prod.snd y == (0 : Int)) = false → false = true)) ∧ ((Prod.snd y_2 == (0 : Int)) = false → false = true)) ∧ (c ≠ [] → ((0 : Nat) + (1 : Nat) ≤ (0 : Nat) + List.length c
  ∧ ((0 : Nat) + List.length c) * (24 : Nat) ≤ (140737488355328 : Nat)) ∧ ((0 : Nat) + List.length c ≤ List.length ([] ++ c) ∧ (0 : Nat) ≤ (0 : Nat) + List.length c ∧ ((0 : Nat) +
  List.length c + (1 : Nat)) * (24 : Nat) ≤ (140737488355328 : Nat)) ∧ ((Prod.snd y_2 == (0 : Int)) = true → ((Prod.snd y == (0 : Int)) = true → (l = [] → (0 : Nat) + ((0 : Nat) + (1
  : Nat)) ≤ List.length ([] ++ [n]) ∧ List.length (List.take ((0 : Nat) + (1 : Nat)) (List.drop (0 : Nat) ([] ++ [n]))) ≤ (1000000 : Nat) ∧ ∀ (y_3 : List Int), y_3 = stackF
  (List.take ((0 : Nat) + (1 : Nat)) (List.drop (0 : Nat) ([] ++ [n]))) → ∀ (v : Bool), v = (List.getD y_3 (0 : Nat) (0 : Int) == List.getD (Prod.fst y_2) (0 : Nat) (0 : Int) &&
  (List.getD y_3 (1 : Nat) (0 : Int) == List.getD (Prod.fst y_2) (1 : Nat) (0 : Int) && (List.getD y_3 (2 : Nat) (0 : Int) == List.getD (Prod.fst y_2) (2 : Nat) (0 : Int) &&
  (List.getD y_3 (3 : Nat) (0 : Int) == List.getD (Prod.fst y_2) (3 : Nat) (0 : Int) && (List.getD y_3 (4 : Nat) (0 : Int) == List.getD (Prod.fst y_2) (4 : Nat) (0 : Int) &&
  (List.getD y_3 (5 : Nat) (0 : Int) == List.getD (Prod.fst y_2) (5 : Nat) (0 : Int) && (List.getD y_3 (6 : Nat) (0 : Int) == List.getD (Prod.fst y_2) (6 : Nat) (0 : Int) &&
  (List.getD y_3 (7 : Nat) (0 : Int) == List.getD (Prod.fst y_2) (7 : Nat) (0 : Int) && (List.getD y_3 (8 : Nat) (0 : Int) == List.getD (Prod.fst y_2) (8 : Nat) (0 : Int) &&
  (List.getD y_3 (9 : Nat) (0 : Int) == List.getD (Prod.fst y_2) (9 : Nat) (0 : Int) && (List.getD y_3 (10 : Nat) (0 : Int) == List.getD (Prod.fst y_2) (10 : Nat) (0 : Int) &&
  (List.getD y_3 (11 : Nat) (0 : Int) == List.getD (Prod.fst y_2) (11 : Nat) (0 : Int) && (List.getD y_3 (12 : Nat) (0 : Int) == List.getD (Prod.fst y_2) (12 : Nat) (0 : Int) &&
  (List.getD y_3 (13 : Nat) (0 : Int) == List.getD (Prod.fst y_2) (13 : Nat) (0 : Int) && (List.getD y_3 (14 : Nat) (0 : Int) == List.getD (Prod.fst y_2) (14 : Nat) (0 : Int) &&
  (List.getD y_3 (15 : Nat) (0 : Int) == List.getD (Prod.fst y_2) (15 : Nat) (0 : Int) && (List.getD y_3 (16 : Nat) (0 : Int) == List.getD (Prod.fst y_2) (16 : Nat) (0 : Int) &&
  (List.getD y_3 (17 : Nat) (0 : Int) == List.getD (Prod.fst y_2) (17 : Nat) (0 : Int) && (List.getD y_3 (18 : Nat) (0 : Int) == List.getD (Prod.fst y_2) (18 : Nat) (0 : Int) &&
  (List.getD y_3 (19 : Nat) (0 : Int) == List.getD (Prod.fst y_2) (19 : Nat) (0 : Int) && (List.getD y_3 (20 : Nat) (0 : Int) == List.getD (Prod.fst y_2) (20 : Nat) (0 : Int) &&
  (List.getD y_3 (21 : Nat) (0 : Int) == List.getD (Prod.fst y_2) (21 : Nat) (0 : Int) && (List.getD y_3 (22 : Nat) (0 : Int) == List.getD (Prod.fst y_2) (22 : Nat) (0 : Int) &&
  (List.getD y_3 (23 : Nat) (0 : Int) == List.getD (Prod.fst y_2) (23 : Nat) (0 : Int) && (List.getD y_3 (24 : Nat) (0 : Int) == List.getD (Prod.fst y_2) (24 : Nat) (0 : Int) &&
  (List.getD y_3 (25 : Nat) (0 : Int) == List.getD (Prod.fst y_2) (25 : Nat) (0 : Int) && (List.getD y_3 (26 : Nat) (0 : Int) == List.getD (Prod.fst y_2) (26 : Nat) (0 : Int) &&
  (List.getD y_3 (27 : Nat) (0 : Int) == List.getD (Prod.fst y_2) (27 : Nat) (0 : Int) && (List.getD y_3 (28 : Nat) (0 : Int) == List.getD (Prod.fst y_2) (28 : Nat) (0 : Int) &&
  (List.getD y_3 (29 : Nat) (0 : Int) == List.getD (Prod.fst y_2) (29 : Nat) (0 : Int) && (List.getD y_3 (30 : Nat) (0 : Int) == List.getD (Prod.fst y_2) (30 : Nat) (0 : Int) &&
  (List.getD y_3 (31 : Nat) (0 : Int) == List.getD (Prod.fst y_2) (31 : Nat) (0 : Int) && true)))))))))))))))))))))))))))))))) → (v = true → (0 : Nat) + ((0 : Nat) + List.length c +
  (1 : Nat)) ≤ List.length (List.take ((0 : Nat) + List.length c) ([] ++ c) ++ [x]) ∧ List.length (List.take ((0 : Nat) + List.length c + (1 : Nat)) (List.drop (0 : Nat) (List.take
  ((0 : Nat) + List.length c) ([] ++ c) ++ [x]))) ≤ (1000000 : Nat) ∧ ∀ (y_4 : List Int), y_4 = progF (List.take ((0 : Nat) + List.length c + (1 : Nat)) (List.drop (0 : Nat)
  (List.take ((0 : Nat) + List.length c) ([] ++ c) ++ [x]))) → ∀ (v : Bool), v = (List.getD y_4 (0 : Nat) (0 : Int) == List.getD (Prod.fst y) (0 : Nat) (0 : Int) && (List.getD y_4 (1
  : Nat) (0 : Int) == List.getD (Prod.fst y) (1 : Nat) (0 : Int) && (List.getD y_4 (2 : Nat) (0 : Int) == List.getD (Prod.fst y) (2 : Nat) (0 : Int) && (List.getD y_4 (3 : Nat) (0 :
  Int) == List.getD (Prod.fst y) (3 : Nat) (0 : Int) && (List.getD y_4 (4 : Nat) (0 : Int) == List.getD (Prod.fst y) (4 : Nat) (0 : Int) && (List.getD y_4 (5 : Nat) (0 : Int) ==
  List.getD (Prod.fst y) (5 : Nat) (0 : Int) && (List.getD y_4 (6 : Nat) (0 : Int) == List.getD (Prod.fst y) (6 : Nat) (0 : Int) && (List.getD y_4 (7 : Nat) (0 : Int) == List.getD
  (Prod.fst y) (7 : Nat) (0 : Int) && (List.getD y_4 (8 : Nat) (0 : Int) == List.getD (Prod.fst y) (8 : Nat) (0 : Int) && (List.getD y_4 (9 : Nat) (0 : Int) == List.getD (Prod.fst y)
  (9 : Nat) (0 : Int) && (List.getD y_4 (10 : Nat) (0 : Int) == List.getD (Prod.fst y) (10 : Nat) (0 : Int) && (List.getD y_4 (11 : Nat) (0 : Int) == List.getD (Prod.fst y) (11 :
  Nat) (0 : Int) && (List.getD y_4 (12 : Nat) (0 : Int) == List.getD (Prod.fst y) (12 : Nat) (0 : Int) && (List.getD y_4 (13 : Nat) (0 : Int) == List.getD (Prod.fst y) (13 : Nat) (0
  : Int) && (List.getD y_4 (14 : Nat) (0 : Int) == List.getD (Prod.fst y) (14 : Nat) (0 : Int) && (List.getD y_4 (15 : Nat) (0 : Int) == List.getD (Prod.fst y) (15 : Nat) (0 : Int)
  && (List.getD y_4 (16 : Nat) (0 : Int) == List.getD (Prod.fst y) (16 : Nat) (0 : Int) && (List.getD y_4 (17 : Nat) (0 : Int) == List.getD (Prod.fst y) (17 : Nat) (0 : Int) &&
  (List.getD y_4 (18 : Nat) (0 : Int) == List.getD (Prod.fst y) (18 : Nat) (0 : Int) && (List.getD y_4 (19 : Nat) (0 : Int) == List.getD (Prod.fst y) (19 : Nat) (0 : Int) &&
  (List.getD y_4 (20 : Nat) (0 : Int) == List.getD (Prod.fst y) (20 : Nat) (0 : Int) && (List.getD y_4 (21 : Nat) (0 : Int) == List.getD (Prod.fst y) (21 : Nat) (0 : Int) &&
  (List.getD y_4 (22 : Nat) (0 : Int) == List.getD (Prod.fst y) (22 : Nat) (0 : Int) && (List.getD y_4 (23 : Nat) (0 : Int) == List.getD (Prod.fst y) (23 : Nat) (0 : Int) &&
  (List.getD y_4 (24 : Nat) (0 : Int) == List.getD (Prod.fst y) (24 : Nat) (0 : Int) && (List.getD y_4 (25 : Nat) (0 : Int) == List.getD (Prod.fst y) (25 : Nat) (0 : Int) &&
  (List.getD y_4 (26 : Nat) (0 : Int) == List.getD (Prod.fst y) (26 : Nat) (0 : Int) && (List.getD y_4 (27 : Nat) (0 : Int) == List.getD (Prod.fst y) (27 : Nat) (0 : Int) &&
  (List.getD y_4 (28 : Nat) (0 : Int) == List.getD (Prod.fst y) (28 : Nat) (0 : Int) && (List.getD y_4 (29 : Nat) (0 : Int) == List.getD (Prod.fst y) (29 : Nat) (0 : Int) &&
  (List.getD y_4 (30 : Nat) (0 : Int) == List.getD (Prod.fst y) (30 : Nat) (0 : Int) && (List.getD y_4 (31 : Nat) (0 : Int) == List.getD (Prod.fst y) (31 : Nat) (0 : Int) &&
  true)))))))))))))))))))))))))))))))) → (v = true → (0 : Nat) ≤ (1000000 : Nat) ∧ ∀ (y : List Int), y = stackF [] → ∀ (v : Bool), v = (List.getD y (0 : Nat) (0 : Int) == (0 : Int)
  && (List.getD y (1 : Nat) (0 : Int) == (0 : Int) && (List.getD y (2 : Nat) (0 : Int) == (0 : Int) && (List.getD y (3 : Nat) (0 : Int) == (0 : Int) && (List.getD y (4 : Nat) (0 :
  Int) == (0 : Int) && (List.getD y (5 : Nat) (0 : Int) == (0 : Int) && (List.getD y (6 : Nat) (0 : Int) == (0 : Int) && (List.getD y (7 : Nat) (0 : Int) == (0 : Int) && (List.getD y
  (8 : Nat) (0 : Int) == (0 : Int) && (List.getD y (9 : Nat) (0 : Int) == (0 : Int) && (List.getD y (10 : Nat) (0 : Int) == (0 : Int) && (List.getD y (11 : Nat) (0 : Int) == (0 :
  Int) && (List.getD y (12 : Nat) (0 : Int) == (0 : Int) && (List.getD y (13 : Nat) (0 : Int) == (0 : Int) && (List.getD y (14 : Nat) (0 : Int) == (0 : Int) && (List.getD y (15 :
  Nat) (0 : Int) == (0 : Int) && (List.getD y (16 : Nat) (0 : Int) == (0 : Int) && (List.getD y (17 : Nat) (0 : Int) == (0 : Int) && (List.getD y (18 : Nat) (0 : Int) == (0 : Int) &&
  (List.getD y (19 : Nat) (0 : Int) == (0 : Int) && (List.getD y (20 : Nat) (0 : Int) == (0 : Int) && (List.getD y (21 : Nat) (0 : Int) == (0 : Int) && (List.getD y (22 : Nat) (0 :
  Int) == (0 : Int) && (List.getD y (23 : Nat) (0 : Int) == (0 : Int) && (List.getD y (24 : Nat) (0 : Int) == (0 : Int) && (List.getD y (25 : Nat) (0 : Int) == (0 : Int) &&
  (List.getD y (26 : Nat) (0 : Int) == (0 : Int) && (List.getD y (27 : Nat) (0 : Int) == (0 : Int) && (List.getD y (28 : Nat) (0 : Int) == (0 : Int) && (List.getD y (29 : Nat) (0 :
  Int) == (0 : Int) && (List.getD y (30 : Nat) (0 : Int) == (0 : Int) && (List.getD y (31 : Nat) (0 : Int) == (0 : Int) && true)))))))))))))))))))))))))))))))) → (v = true → (0 :
  Nat) ≤ (1000000 : Nat) ∧ ∀ (y : List Int), y = progF [] → ∀ (v : Bool), v = (List.getD y (0 : Nat) (0 : Int) == (0 : Int) && (List.getD y (1 : Nat) (0 : Int) == (0 : Int) &&
  (List.getD y (2 : Nat) (0 : Int) == (0 : Int) && (List.getD y (3 : Nat) (0 : Int) == (0 : Int) && (List.getD y (4 : Nat) (0 : Int) == (0 : Int) && (List.getD y (5 : Nat) (0 : Int)
  == (0 : Int) && (List.getD y (6 : Nat) (0 : Int) == (0 : Int) && (List.getD y (7 : Nat) (0 : Int) == (0 : Int) && (List.getD y (8 : Nat) (0 : Int) == (0 : Int) && (List.getD y (9 :
  Nat) (0 : Int) == (0 : Int) && (List.getD y (10 : Nat) (0 : Int) == (0 : Int) && (List.getD y (11 : Nat) (0 : Int) == (0 : Int) && (List.getD y (12 : Nat) (0 : Int) == (0 : Int) &&
  (List.getD y (13 : Nat) (0 : Int) == (0 : Int) && (List.getD y (14 : Nat) (0 : Int) == (0 : Int) && (List.getD y (15 : Nat) (0 : Int) == (0 : Int) && (List.getD y (16 : Nat) (0 :
  Int) == (0 : Int) && (List.getD y (17 : Nat) (0 : Int) == (0 : Int) && (List.getD y (18 : Nat) (0 : Int) == (0 : Int) && (List.getD y (19 : Nat) (0 : Int) == (0 : Int) &&
  (List.getD y (20 : Nat) (0 : Int) == (0 : Int) && (List.getD y (21 : Nat) (0 : Int) == (0 : Int) && (List.getD y (22 : Nat) (0 : Int) == (0 : Int) && (List.getD y (23 : Nat) (0 :
  Int) == (0 : Int) && (List.getD y (24 : Nat) (0 : Int) == (0 : Int) && (List.getD y (25 : Nat) (0 : Int) == (0 : Int) && (List.getD y (26 : Nat) (0 : Int) == (0 : Int) &&
  (List.getD y (27 : Nat) (0 : Int) == (0 : Int) && (List.getD y (28 : Nat) (0 : Int) == (0 : Int) && (List.getD y (29 : Nat) (0 : Int) == (0 : Int) && (List.getD y (30 : Nat) (0 :
  Int) == (0 : Int) && (List.getD y (31 : Nat) (0 : Int) == (0 : Int) && true)))))))))))))))))))))))))))))))) → (v = true → true = true) ∧ (v = false → false = true)) ∧ (v = false →
  false = true)) ∧ (v = false → false = true)) ∧ (v = false → false = true)) ∧ (l ≠ [] → ((0 : Nat) + (1 : Nat) ≤ (0 : Nat) + List.length l ∧ ((0 : Nat) + List.length l) * (8 : Nat)
  ≤ (140737488355328 : Nat)) ∧ ((0 : Nat) + List.length l ≤ List.length ([] ++ l) ∧ (0 : Nat) ≤ (0 : Nat) + List.length l ∧ ((0 : Nat) + List.length l + (1 : Nat)) * (8 : Nat) ≤
  (140737488355328 : Nat)) ∧ (0 : Nat) + ((0 : Nat) + List.length l + (1 : Nat)) ≤ List.length (List.take ((0 : Nat) + List.length l) ([] ++ l) ++ [n]) ∧ List.length (List.take ((0 :
  Nat) + List.length l + (1 : Nat)) (List.drop (0 : Nat) (List.take ((0 : Nat) + List.length l) ([] ++ l) ++ [n]))) ≤ (1000000 : Nat) ∧ ∀ (y_3 : List Int), y_3 = stackF (List.take
  ((0 : Nat) + List.length l + (1 : Nat)) (List.drop (0 : Nat) (List.take ((0 : Nat) + List.length l) ([] ++ l) ++ [n]))) → ∀ (v : Bool), v = (List.getD y_3 (0 : Nat) (0 : Int) ==
  List.getD (Prod.fst y_2) (0 : Nat) (0 : Int) && (List.getD y_3 (1 : Nat) (0 : Int) == List.getD (Prod.fst y_2) (1 : Nat) (0 : Int) && (List.getD y_3 (2 : Nat) (0 : Int) ==
  List.getD (Prod.fst y_2) (2 : Nat) (0 : Int) && (List.getD y_3 (3 : Nat) (0 : Int) == List.getD (Prod.fst y_2) (3 : Nat) (0 : Int) && (List.getD y_3 (4 : Nat) (0 : Int) ==
  List.getD (Prod.fst y_2) (4 : Nat) (0 : Int) && (List.getD y_3 (5 : Nat) (0 : Int) == List.getD (Prod.fst y_2) (5 : Nat) (0 : Int) && (List.getD y_3 (6 : Nat) (0 : Int) ==
  List.getD (Prod.fst y_2) (6 : Nat) (0 : Int) && (List.getD y_3 (7 : Nat) (0 : Int) == List.getD (Prod.fst y_2) (7 : Nat) (0 : Int) && (List.getD y_3 (8 : Nat) (0 : Int) ==
  List.getD (Prod.fst y_2) (8 : Nat) (0 : Int) && (List.getD y_3 (9 : Nat) (0 : Int) == List.getD (Prod.fst y_2) (9 : Nat) (0 : Int) && (List.getD y_3 (10 : Nat) (0 : Int) ==
  List.getD (Prod.fst y_2) (10 : Nat) (0 : Int) && (List.getD y_3 (11 : Nat) (0 : Int) == List.getD (Prod.fst y_2) (11 : Nat) (0 : Int) && (List.getD y_3 (12 : Nat) (0 : Int) ==
  List.getD (Prod.fst y_2) (12 : Nat) (0 : Int) && (List.getD y_3 (13 : Nat) (0 : Int) == List.getD (Prod.fst y_2) (13 : Nat) (0 : Int) && (List.getD y_3 (14 : Nat) (0 : Int) ==
  List.getD (Prod.fst y_2) (14 : Nat) (0 : Int) && (List.getD y_3 (15 : Nat) (0 : Int) == List.getD (Prod.fst y_2) (15 : Nat) (0 : Int) && (List.getD y_3 (16 : Nat) (0 : Int) ==
  List.getD (Prod.fst y_2) (16 : Nat) (0 : Int) && (List.getD y_3 (17 : Nat) (0 : Int) == List.getD (Prod.fst y_2) (17 : Nat) (0 : Int) && (List.getD y_3 (18 : Nat) (0 : Int) ==
  List.getD (Prod.fst y_2) (18 : Nat) (0 : Int) && (List.getD y_3 (19 : Nat) (0 : Int) == List.getD (Prod.fst y_2) (19 : Nat) (0 : Int) && (List.getD y_3 (20 : Nat) (0 : Int) ==
  List.getD (Prod.fst y_2) (20 : Nat) (0 : Int) && (List.getD y_3 (21 : Nat) (0 : Int) == List.getD (Prod.fst y_2) (21 : Nat) (0 : Int) && (List.getD y_3 (22 : Nat) (0 : Int) ==
  List.getD (Prod.fst y_2) (22 : Nat) (0 : Int) && (List.getD y_3 (23 : Nat) (0 : Int) == List.getD (Prod.fst y_2) (23 : Nat) (0 : Int) && (List.getD y_3 (24 : Nat) (0 : Int) ==
  List.getD (Prod.fst y_2) (24 : Nat) (0 : Int) && (List.getD y_3 (25 : Nat) (0 : Int) == List.getD (Prod.fst y_2) (25 : Nat) (0 : Int) && (List.getD y_3 (26 : Nat) (0 : Int) ==
  List.getD (Prod.fst y_2) (26 : Nat) (0 : Int) && (List.getD y_3 (27 : Nat) (0 : Int) == List.getD (Prod.fst y_2) (27 : Nat) (0 : Int) && (List.getD y_3 (28 : Nat) (0 : Int) ==
  List.getD (Prod.fst y_2) (28 : Nat) (0 : Int) && (List.getD y_3 (29 : Nat) (0 : Int) == List.getD (Prod.fst y_2) (29 : Nat) (0 : Int) && (List.getD y_3 (30 : Nat) (0 : Int) ==
  List.getD (Prod.fst y_2) (30 : Nat) (0 : Int) && (List.getD y_3 (31 : Nat) (0 : Int) == List.getD (Prod.fst y_2) (31 : Nat) (0 : Int) && true)))))))))))))))))))))))))))))))) → (v =
  true → (0 : Nat) + ((0 : Nat) + List.length c + (1 : Nat)) ≤ List.length (List.take ((0 : Nat) + List.length c) ([] ++ c) ++ [x]) ∧ List.length (List.take ((0 : Nat) + List.length
  c + (1 : Nat)) (List.drop (0 : Nat) (List.take ((0 : Nat) + List.length c) ([] ++ c) ++ [x]))) ≤ (1000000 : Nat) ∧ ∀ (y_4 : List Int), y_4 = progF (List.take ((0 : Nat) +
  List.length c + (1 : Nat)) (List.drop (0 : Nat) (List.take ((0 : Nat) + List.length c) ([] ++ c) ++ [x]))) → ∀ (v : Bool), v = (List.getD y_4 (0 : Nat) (0 : Int) == List.getD
  (Prod.fst y) (0 : Nat) (0 : Int) && (List.getD y_4 (1 : Nat) (0 : Int) == List.getD (Prod.fst y) (1 : Nat) (0 : Int) && (List.getD y_4 (2 : Nat) (0 : Int) == List.getD (Prod.fst y)
  (2 : Nat) (0 : Int) && (List.getD y_4 (3 : Nat) (0 : Int) == List.getD (Prod.fst y) (3 : Nat) (0 : Int) && (List.getD y_4 (4 : Nat) (0 : Int) == List.getD (Prod.fst y) (4 : Nat) (0
  : Int) && (List.getD y_4 (5 : Nat) (0 : Int) == List.getD (Prod.fst y) (5 : Nat) (0 : Int) && (List.getD y_4 (6 : Nat) (0 : Int) == List.getD (Prod.fst y) (6 : Nat) (0 : Int) &&
  (List.getD y_4 (7 : Nat) (0 : Int) == List.getD (Prod.fst y) (7 : Nat) (0 : Int) && (List.getD y_4 (8 : Nat) (0 : Int) == List.getD (Prod.fst y) (8 : Nat) (0 : Int) && (List.getD
  y_4 (9 : Nat) (0 : Int) == List.getD (Prod.fst y) (9 : Nat) (0 : Int) && (List.getD y_4 (10 : Nat) (0 : Int) == List.getD (Prod.fst y) (10 : Nat) (0 : Int) && (List.getD y_4 (11 :
  Nat) (0 : Int) == List.getD (Prod.fst y) (11 : Nat) (0 : Int) && (List.getD y_4 (12 : Nat) (0 : Int) == List.getD (Prod.fst y) (12 : Nat) (0 : Int) && (List.getD y_4 (13 : Nat) (0
  : Int) == List.getD (Prod.fst y) (13 : Nat) (0 : Int) && (List.getD y_4 (14 : Nat) (0 : Int) == List.getD (Prod.fst y) (14 : Nat) (0 : Int) && (List.getD y_4 (15 : Nat) (0 : Int)
  == List.getD (Prod.fst y) (15 : Nat) (0 : Int) && (List.getD y_4 (16 : Nat) (0 : Int) == List.getD (Prod.fst y) (16 : Nat) (0 : Int) && (List.getD y_4 (17 : Nat) (0 : Int) ==
  List.getD (Prod.fst y) (17 : Nat) (0 : Int) && (List.getD y_4 (18 : Nat) (0 : Int) == List.getD (Prod.fst y) (18 : Nat) (0 : Int) && (List.getD y_4 (19 : Nat) (0 : Int) ==
  List.getD (Prod.fst y) (19 : Nat) (0 : Int) && (List.getD y_4 (20 : Nat) (0 : Int) == List.getD (Prod.fst y) (20 : Nat) (0 : Int) && (List.getD y_4 (21 : Nat) (0 : Int) ==
  List.getD (Prod.fst y) (21 : Nat) (0 : Int) && (List.getD y_4 (22 : Nat) (0 : Int) == List.getD (Prod.fst y) (22 : Nat) (0 : Int) && (List.getD y_4 (23 : Nat) (0 : Int) ==
  List.getD (Prod.fst y) (23 : Nat) (0 : Int) && (List.getD y_4 (24 : Nat) (0 : Int) == List.getD (Prod.fst y) (24 : Nat) (0 : Int) && (List.getD y_4 (25 : Nat) (0 : Int) ==
  List.getD (Prod.fst y) (25 : Nat) (0 : Int) && (List.getD y_4 (26 : Nat) (0 : Int) == List.getD (Prod.fst y) (26 : Nat) (0 : Int) && (List.getD y_4 (27 : Nat) (0 : Int) ==
  List.getD (Prod.fst y) (27 : Nat) (0 : Int) && (List.getD y_4 (28 : Nat) (0 : Int) == List.getD (Prod.fst y) (28 : Nat) (0 : Int) && (List.getD y_4 (29 : Nat) (0 : Int) ==
  List.getD (Prod.fst y) (29 : Nat) (0 : Int) && (List.getD y_4 (30 : Nat) (0 : Int) == List.getD (Prod.fst y) (30 : Nat) (0 : Int) && (List.getD y_4 (31 : Nat) (0 : Int) ==
  List.getD (Prod.fst y) (31 : Nat) (0 : Int) && true)))))))))))))))))))))))))))))))) → (v = true → (0 : Nat) ≤ (1000000 : Nat) ∧ ∀ (y : List Int), y = stackF [] → ∀ (v : Bool), v =
  (List.getD y (0 : Nat) (0 : Int) == (0 : Int) && (List.getD y (1 : Nat) (0 : Int) == (0 : Int) && (List.getD y (2 : Nat) (0 : Int) == (0 : Int) && (List.getD y (3 : Nat) (0 : Int)
  == (0 : Int) && (List.getD y (4 : Nat) (0 : Int) == (0 : Int) && (List.getD y (5 : Nat) (0 : Int) == (0 : Int) && (List.getD y (6 : Nat) (0 : Int) == (0 : Int) && (List.getD y (7 :
  Nat) (0 : Int) == (0 : Int) && (List.getD y (8 : Nat) (0 : Int) == (0 : Int) && (List.getD y (9 : Nat) (0 : Int) == (0 : Int) && (List.getD y (10 : Nat) (0 : Int) == (0 : Int) &&
  (List.getD y (11 : Nat) (0 : Int) == (0 : Int) && (List.getD y (12 : Nat) (0 : Int) == (0 : Int) && (List.getD y (13 : Nat) (0 : Int) == (0 : Int) && (List.getD y (14 : Nat) (0 :
  Int) == (0 : Int) && (List.getD y (15 : Nat) (0 : Int) == (0 : Int) && (List.getD y (16 : Nat) (0 : Int) == (0 : Int) && (List.getD y (17 : Nat) (0 : Int) == (0 : Int) &&
  (List.getD y (18 : Nat) (0 : Int) == (0 : Int) && (List.getD y (19 : Nat) (0 : Int) == (0 : Int) && (List.getD y (20 : Nat) (0 : Int) == (0 : Int) && (List.getD y (21 : Nat) (0 :
  Int) == (0 : Int) && (List.getD y (22 : Nat) (0 : Int) == (0 : Int) && (List.getD y (23 : Nat) (0 : Int) == (0 : Int) && (List.getD y (24 : Nat) (0 : Int) == (0 : Int) &&
  (List.getD y (25 : Nat) (0 : Int) == (0 : Int) && (List.getD y (26 : Nat) (0 : Int) == (0 : Int) && (List.getD y (27 : Nat) (0 : Int) == (0 : Int) && (List.getD y (28 : Nat) (0 :
  Int) == (0 : Int) && (List.getD y (29 : Nat) (0 : Int) == (0 : Int) && (List.getD y (30 : Nat) (0 : Int) == (0 : Int) && (List.getD y (31 : Nat) (0 : Int) == (0 : Int) &&
  true)))))))))))))))))))))))))))))))) → (v = true → (0 : Nat) ≤ (1000000 : Nat) ∧ ∀ (y : List Int), y = progF [] → ∀ (v : Bool), v = (List.getD y (0 : Nat) (0 : Int) == (0 : Int) &&
  (List.getD y (1 : Nat) (0 : Int) == (0 : Int) && (List.getD y (2 : Nat) (0 : Int) == (0 : Int) && (List.getD y (3 : Nat) (0 : Int) == (0 : Int) && (List.getD y (4 : Nat) (0 : Int)
  == (0 : Int) && (List.getD y (5 : Nat) (0 : Int) == (0 : Int) && (List.getD y (6 : Nat) (0 : Int) == (0 : Int) && (List.getD y (7 : Nat) (0 : Int) == (0 : Int) && (List.getD y (8 :
  Nat) (0 : Int) == (0 : Int) && (List.getD y (9 : Nat) (0 : Int) == (0 : Int) && (List.getD y (10 : Nat) (0 : Int) == (0 : Int) && (List.getD y (11 : Nat) (0 : Int) == (0 : Int) &&
  (List.getD y (12 : Nat) (0 : Int) == (0 : Int) && (List.getD y (13 : Nat) (0 : Int) == (0 : Int) && (List.getD y (14 : Nat) (0 : Int) == (0 : Int) && (List.getD y (15 : Nat) (0 :
  Int) == (0 : Int) && (List.getD y (16 : Nat) (0 : Int) == (0 : Int) && (List.getD y (17 : Nat) (0 : Int) == (0 : Int) && (List.getD y (18 : Nat) (0 : Int) == (0 : Int) &&
  (List.getD y (19 : Nat) (0 : Int) == (0 : Int) && (List.getD y (20 : Nat) (0 : Int) == (0 : Int) && (List.getD y (21 : Nat) (0 : Int) == (0 : Int) && (List.getD y (22 : Nat) (0 :
  Int) == (0 : Int) && (List.getD y (23 : Nat) (0 : Int) == (0 : Int) && (List.getD y (24 : Nat) (0 : Int) == (0 : Int) && (List.getD y (25 : Nat) (0 : Int) == (0 : Int) &&
  (List.getD y (26 : Nat) (0 : Int) == (0 : Int) && (List.getD y (27 : Nat) (0 : Int) == (0 : Int) && (List.getD y (28 : Nat) (0 : Int) == (0 : Int) && (List.getD y (29 : Nat) (0 :
  Int) == (0 : Int) && (List.getD y (30 : Nat) (0 : Int) == (0 : Int) && (List.getD y (31 : Nat) (0 : Int) == (0 : Int) && true)))))))))))))))))))))))))))))))) → (v = true → true =
  true) ∧ (v = false → false = true)) ∧ (v = false → false = true)) ∧ (v = false → false = true)) ∧ (v = false → false = true))) ∧ ((Prod.snd y == (0 : Int)) = false → false = true))
  ∧ ((Prod.snd y_2 == (0 : Int)) = false → false = true))) ∧ (decide ((↑(List.length l) : Int) ≤ (66 : Int)) = false → true = true)) ∧ (decide ((↑(List.length c) : Int) ≤ (60 : Int))
  = false → true = true))
  ) := by kernel_rfl
--@end
def eq32 (a b : List Int) : Bool := (List.getD a 0 0 == List.getD b 0 0 && (List.getD a 1 0 == List.getD b 1 0 && (List.getD a 2 0 == List.getD b 2 0 && (List.getD a 3 0 == List.getD b 3 0 && (List.getD a 4 0 == List.getD b 4 0 && (List.getD a 5 0 == List.getD b 5 0 && (List.getD a 6 0 == List.getD b 6 0 && (List.getD a 7 0 == List.getD b 7 0 && (List.getD a 8 0 == List.getD b 8 0 && (List.getD a 9 0 == List.getD b 9 0 && (List.getD a 10 0 == List.getD b 10 0 && (List.getD a 11 0 == List.getD b 11 0 && (List.getD a 12 0 == List.getD b 12 0 && (List.getD a 13 0 == List.getD b 13 0 && (List.getD a 14 0 == List.getD b 14 0 && (List.getD a 15 0 == List.getD b 15 0 && (List.getD a 16 0 == List.getD b 16 0 && (List.getD a 17 0 == List.getD b 17 0 && (List.getD a 18 0 == List.getD b 18 0 && (List.getD a 19 0 == List.getD b 19 0 && (List.getD a 20 0 == List.getD b 20 0 && (List.getD a 21 0 == List.getD b 21 0 && (List.getD a 22 0 == List.getD b 22 0 && (List.getD a 23 0 == List.getD b 23 0 && (List.getD a 24 0 == List.getD b 24 0 && (List.getD a 25 0 == List.getD b 25 0 && (List.getD a 26 0 == List.getD b 26 0 && (List.getD a 27 0 == List.getD b 27 0 && (List.getD a 28 0 == List.getD b 28 0 && (List.getD a 29 0 == List.getD b 29 0 && (List.getD a 30 0 == List.getD b 30 0 && (List.getD a 31 0 == List.getD b 31 0 && true))))))))))))))))))))))))))))))))
theorem eq32_self (a : List Int) : eq32 a a = true := by simp [eq32]
theorem cmp32 {a b : List Int} {X : Prop} {v : Bool} (hv : v = eq32 a b) (e : a = b) (hX : X) : (v = true → X) ∧ (v = false → false = true) := by
  rw [e, eq32_self] at hv
  rw [hv]
  exact ⟨fun _ => hX, fun h => by cases h⟩
theorem enc_stack (n : Int) (d : List Int) : (encodeF (stackV n d)).2 = 0 := by
  have h1 : shapeV (stackV n d) = (1, true) := by
    simp [stackV, lisV, numV, bytV, shapeV, shapeL]
  have h2 := encV_len (stackV n d)
  have h3 : (stackV n d).sz = 112 := by simp [stackV, lisV, numV, bytV, n32, Val.sz, szL]
  unfold encodeF
  rw [h1, if_neg (by simp), if_neg (by simp), if_neg (by omega)]
theorem enc_prog (x : Ins) (d : List Int) : (encodeF (progV x d)).2 = 0 := by
  have h1 : shapeV (progV x d) = (1, true) := by
    simp [progV, lisV, numV, bytV, shapeV, shapeL]
  have h2 := encV_len (progV x d)
  have h3 : (progV x d).sz = 144 := by simp [progV, lisV, numV, bytV, n32, Val.sz, szL]
  unfold encodeF
  rw [h1, if_neg (by simp), if_neg (by simp), if_neg (by omega)]
theorem stackF_app (l : List Int) (n : Int) : stackF (l ++ [n]) = hashF 0 (stackV n (stackF l)) := by
  simp only [stackF, ontoF, List.foldl_append, List.foldl_cons, List.foldl_nil]
theorem progF_app (c : List Ins) (x : Ins) : progF (c ++ [x]) = hashF 1 (progV x (progF c)) := by
  simp only [progF, List.foldl_append, List.foldl_cons, List.foldl_nil]
theorem tkA {α : Type} (l : List α) (n : α) : List.take (0 + l.length + 1) (List.drop 0 (List.take (0 + l.length) ([] ++ l) ++ [n])) = l ++ [n] := by
  simp [List.take_of_length_le]
theorem chains_pure (c : List Ins) (x : Ins) (l : List Int) (n : Int) : PureC E2 6 [.psl Th.ins c false, .agg (encF false .ins x), .psl Th.ints l false, .int false .i64 n] (.bool false true) := by
  refine pure_of_call E2_ok (callOk_of E2_ok Fcha_ok 400) ?_
  rw [cond_chains]
  refine ⟨trivial, fun h => absurd h (by simp), fun _ => ⟨fun hc => ⟨fun hl => ?_, fun _ => rfl⟩, fun _ => rfl⟩⟩
  have hc := of_decide_eq_true hc
  have hl := of_decide_eq_true hl
  refine ⟨by omega, fun y hy => ⟨by omega, fun y1 hy1 => ⟨⟨by omega, okV_stack n y⟩, fun y2 hy2 => ⟨⟨by omega, okV_prog x y1⟩, fun y3 hy3 => ?_⟩⟩⟩⟩
  have hy2 : y2 = (hashF 0 (stackV n (stackF l)), 0) := by
    rw [hy2]
    show valueF 0 (stackV n y) = _
    unfold valueF
    rw [if_neg (by rw [enc_stack]; simp), hy]
  have hy3 : y3 = (hashF 1 (progV x (progF c)), 0) := by
    rw [hy3]
    show valueF 1 (progV x y1) = _
    unfold valueF
    rw [if_neg (by rw [enc_prog]; simp), hy1]
  have e2 : y2.2 = 0 := by rw [hy2]
  have e3 : y3.2 = 0 := by rw [hy3]
  have ES : ∀ L, L = l ++ [n] → stackF L = y2.1 := fun L h => by rw [h, stackF_app, hy2]
  have EP : ∀ L, L = c ++ [x] → progF L = y3.1 := fun L h => by rw [h, progF_app, hy3]
  have no2 : (y2.2 == 0) = false → false = true := fun h => by rw [e2] at h; cases h
  have no3 : (y3.2 == 0) = false → false = true := fun h => by rw [e3] at h; cases h
  refine ⟨fun h1 => ?_, fun h1 => ?_⟩
  · subst h1
    refine ⟨fun _ => ⟨fun _ => ⟨fun h2 => ?_, fun h2 => ?_⟩, no3⟩, no2⟩
    · subst h2
      refine ⟨by simp, by simp, fun z hz v hv => cmp32 hv (hz.trans (ES _ rfl)) ⟨by simp, by simp, fun z hz v hv => cmp32 hv (hz.trans (EP _ rfl)) ⟨by omega, fun z hz v hv => cmp32 (b := zero32) hv (hz.trans rfl) ⟨by omega, fun z hz v hv => cmp32 (b := zero32) hv (hz.trans rfl) rfl⟩⟩⟩⟩
    · refine ⟨⟨by have := List.length_pos_iff.2 h2; omega, by omega⟩, ⟨by simp, by omega, by omega⟩, by simp, by simp; omega, fun z hz v hv => cmp32 hv (hz.trans (ES _ (tkA _ _))) ⟨by simp, by simp, fun z hz v hv => cmp32 hv (hz.trans (EP _ rfl)) ⟨by omega, fun z hz v hv => cmp32 (b := zero32) hv (hz.trans rfl) ⟨by omega, fun z hz v hv => cmp32 (b := zero32) hv (hz.trans rfl) rfl⟩⟩⟩⟩
  · refine ⟨⟨by have := List.length_pos_iff.2 h1; omega, by omega⟩, ⟨by simp, by omega, by omega⟩, fun _ => ⟨fun _ => ⟨fun h2 => ?_, fun h2 => ?_⟩, no3⟩, no2⟩
    · subst h2
      refine ⟨by simp, by simp, fun z hz v hv => cmp32 hv (hz.trans (ES _ rfl)) ⟨by simp, by simp; omega, fun z hz v hv => cmp32 hv (hz.trans (EP _ (tkA _ _))) ⟨by omega, fun z hz v hv => cmp32 (b := zero32) hv (hz.trans rfl) ⟨by omega, fun z hz v hv => cmp32 (b := zero32) hv (hz.trans rfl) rfl⟩⟩⟩⟩
    · refine ⟨⟨by have := List.length_pos_iff.2 h2; omega, by omega⟩, ⟨by simp, by omega, by omega⟩, by simp, by simp; omega, fun z hz v hv => cmp32 hv (hz.trans (ES _ (tkA _ _))) ⟨by simp, by simp; omega, fun z hz v hv => cmp32 hv (hz.trans (EP _ (tkA _ _))) ⟨by omega, fun z hz v hv => cmp32 (b := zero32) hv (hz.trans rfl) ⟨by omega, fun z hz v hv => cmp32 (b := zero32) hv (hz.trans rfl) rfl⟩⟩⟩⟩
end Go.Proofs.YtcaomfbcchemnaaDoor

/- Chapter 21: the laid table of the digests. -/
namespace Go.Proofs.YtcaomfbcchemnaaDoor
open Go.ChangeShapes Go.WideShapes Go.ChangeAt Go.RowKit
set_option linter.unusedVariables false
set_option linter.unusedSimpArgs false
theorem one_intD {H : Type} {enc : TypeId × Value → H} {P : Program} {w : World} {spare : Nat → Bool} {held : Bool} {fuel : Nat} {t : TypeId} {cs : List Value} {k k' : IntKind} {n : Int} {p : List MemPlace} (ht : P.underlying t = some (.int k))
    (h : DataW.trod enc P w 0 spare held fuel t cs = some (.lit (.int k' n), p)) : cs = [.int k' n] := by
  cases fuel with
  | zero => simp [DataW.trod] at h
  | succ m =>
    unfold DataW.trod at h
    rw [ht] at h
    split at h <;> simp_all
theorem gDig : Tryd.prog.globalNamed "wagonpool/digest.k" = some 1 := by kernel_rfl
theorem tDig : (Tryd.prog.globals[1]?).map (·.type) = some 122 := by kernel_rfl
theorem cellsU32 : Tryd.prog.cellsOf 106 = 1 := by kernel_rfl
abbrev laidB2 : List (String × DataW Unit) := [("wagonpool/digest.k", Rows.laid_wagonpool_digest_k), ("wagonpool/tvm.binaries", Rows.laid_wagonpool_tvm_binaries)]
theorem laidB2_sub {W : World} (h : laidMetH Tryd.prog laidB2 W) : laidMetH Tryd.prog laidB W := laidMetH.filter (fun x => x.1 == "wagonpool/tvm.binaries") h
theorem laidB2_k {W : World} (h : laidMetH Tryd.prog laidB2 W) : laidMetH Tryd.prog [("wagonpool/digest.k", Rows.laid_wagonpool_digest_k)] W := laidMetH.filter (fun x => x.1 == "wagonpool/digest.k") h
set_option maxRecDepth 100000 in
theorem k_data : (Rows.laid_wagonpool_digest_k : DataW Unit) = .agg (kNums.map fun n => .lit (.int .u32 n)) := rfl
set_option maxRecDepth 100000 in
theorem k_sv : kSV = .agg (kNums.map fun n => .int true .u32 n) := rfl
theorem of_laidK {W : World} (h : laidMetH Tryd.prog laidB2 W) (j : Nat) (s : SV thy) (hj : kSV.cells[j]? = some s) : ∃ v, W.cell? ⟨1, j, none⟩ = some v ∧ Den E2 (fun _ => none) (gTop W) s v := by
  have h0 : laidMet Tryd.prog [("wagonpool/digest.k", Rows.laid_wagonpool_digest_k)] W := laidB2_k h
  obtain ⟨ps, ⟨g, t, cs, fuel, p, q, hg, ht, hv, hd, _, _⟩, _⟩ := h0
  obtain rfl := Option.some.inj (gDig.symm.trans hg)
  obtain rfl := Option.some.inj (tDig.symm.trans ht)
  rw [k_data] at hd
  obtain ⟨xs, m, rfl, hx, hl, hxl, hf⟩ := DataW.trod_array Tryd.underlying122 hd
  simp only [Prod.mk.injEq, DataW.agg.injEq] at hx
  rw [k_sv] at hj
  have hj : (kNums.map fun n => (SV.int true .u32 n : SV thy))[j]? = some s := hj
  rw [List.getElem?_map] at hj
  obtain ⟨n, hn, rfl⟩ := Option.map_eq_some_iff.1 hj
  have hj64 : j < 64 := (List.getElem?_eq_some_iff.1 hn).1
  have h1 := hf j hj64
  have h2 : (xs.map (·.1))[j]? = some (.lit (.int .u32 n)) := by rw [← hx.1, List.getElem?_map, hn]; rfl
  rw [List.getElem?_map] at h2
  obtain ⟨x, hx1, hx2⟩ := Option.map_eq_some_iff.1 h2
  rw [hx1, cellsU32, Nat.mul_one] at h1
  obtain ⟨d, p'⟩ := x
  obtain rfl : d = _ := hx2
  have h3 := one_intD Tryd.underlying106 h1
  refine ⟨.int .u32 n, ?_, .int _ _ _⟩
  rw [World.var?_cell hg hv j]
  have h4 : ((cs.toList.drop j).take 1)[0]? = some (.int .u32 n) := by rw [h3]; rfl
  rw [List.getElem?_take, if_pos (by decide), List.getElem?_drop] at h4
  simpa using h4
set_option maxRecDepth 100000 in
theorem law_calls2 {f : FuncId} {args : List (SV thy)} (hp : PureC E2 f args (.bool false true)) {W : World} (hL : laidMetH Tryd.prog laidB2 W) {vals : Array Value} (hd : DenL E σ0 (gTop W) args vals.toList) : Calls Tryd.prog f vals W fun en W' => en = .returned (.bool true) ∧ Ext W W' := by
  have hI : Inv E2 W.heap.size σ0 hp0 (gTop W) W := inv_top fun n sv hn j s hj => by
    match n, hn with
    | 1, hn =>
      cases hn
      exact of_laidK hL j s hj
    | 0, hn =>
      cases hn
      match j, hj with
      | 0, hj => cases hj; obtain ⟨v, h1, h2⟩ := of_laid (laidB2_sub hL); exact ⟨v, h1, h2.like (like_glob E globT2).1⟩
  refine (hp _ W vals hI ⟨hd.1, fun j sv u h1 h2 => (hd.2 j sv u h1 h2).like (like_glob E globT2).1⟩).mono ?_
  rintro en w' ⟨u, rfl, g', hS, _, hv⟩
  cases hv
  exact ⟨rfl, ext_of_stp hS⟩
section
variable {H : Type} {enc : TypeId × Value → H} {w : World} {spare : Nat → Bool} {held : Bool}
theorem open_ins {v : Value} {d : DataW H} {ps : List MemPlace} (h : DataW.Trod enc Tryd.prog w 0 spare held 47 v d ps) : ∃ x : Ins, Den E σ0 (gTop w) (.agg (encF false .ins x)) v := by
  obtain ⟨fuel, h⟩ := h
  obtain ⟨a, ha⟩ := ins_of_trod fuel _ _ h
  obtain ⟨xs, n, rfl, _, hl, hxl, hf⟩ := DataW.trod_struct Tryd.underlying47 h
  rw [cells47] at hl
  have hv := agg_of_cells hl (by decide)
  refine ⟨a, ?_⟩
  rw [hv]
  refine .agg (fun j => v.cells.toList.getD j undef) (show v.cells.toList.toArray.size = 3 by rw [List.size_toArray]; exact hl) (fun j hj => ?_) (fun j sv hj => ?_)
  · have hj : j < 3 := hj
    rw [List.getElem?_toArray, List.getD_eq_getElem?_getD, List.getElem?_eq_getElem (by omega)]; rfl
  · obtain ⟨u, h1, h2⟩ := ha j sv hj
    rw [List.getD_eq_getElem?_getD, h1]; exact h2
set_option maxRecDepth 100000 in
theorem open_ints {r : Reach} {b0 : Nat} {v : Value} {d : DataW H} {ps : List MemPlace} (hval : Value.okWide Tryd.prog w r b0 32 v) (h : DataW.Trod enc Tryd.prog w 0 spare held 32 v d ps) : ∃ l : List Int, Den E σ0 (gTop w) (.psl Th.ints l false) v := by
  obtain ⟨a, len, cap, rfl⟩ := okWide_slice Tryd.underlying32 hval
  obtain ⟨fuel, h⟩ := h
  obtain ⟨sv, l, h1, h2⟩ := psl_of_trod (E := E) (th := Th.ints) (fun _ => rfl) (by decide) Tryd.underlying32 cells3 h (fun n cs' y hy => num_of_trod n cs' y hy)
  have h1 : [Value.slice a len cap] = [sv] := h1
  cases h1
  exact ⟨l, h2⟩
end
set_option maxRecDepth 100000 in
theorem door_met2 (os : Os) (args : Array Value) : laidMetH Tryd.prog laidB2 ((World.doorLaid Tryd.prog 600 os).forCall (fun _ _ => 0) ⟨#[], args, []⟩).memory :=
  laidMetH_of_parts3 (fuel := 8) (laidMet_of_run' 8 (by kernel_rfl) (by kernel_rfl)) (by kernel_rfl) (by kernel_rfl)
end Go.Proofs.YtcaomfbcchemnaaDoor
