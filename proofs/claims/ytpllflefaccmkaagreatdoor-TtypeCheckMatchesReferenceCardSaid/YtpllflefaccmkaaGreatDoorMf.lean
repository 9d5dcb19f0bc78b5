/- Merged texts: TtW, TtX. -/
import Derived.Test.YtpllflefaccmkaaGreatDoorMe
/- Chapter 17: the reference's Check, the law of the two Checks. -/
namespace Go.Proofs.YtpllflefaccmkaaGreatDoor
open Go
set_option linter.unusedVariables false
set_option linter.unusedSimpArgs false
set_option maxRecDepth 100000
structure C16X where
  k : Nat
  r : Nat
  d : Bool
  W : List (List Nat)
noncomputable def Aix : Fr thy → Hp thy → Nat → Ann thy := fun T h i => { X := KX, fr := fun x => [(0, T 0), (1, T 1), (5, .int false .i64 x.k)], bl := fun x => blkS h (T 0), src := fun _ => [], md := [], ih := i, M := i + 30, meas := fun x => x.r }
noncomputable def Ac16 : Fr thy → Hp thy → Nat → Ann thy := fun T h i => { X := C16X, fr := fun x => [(1, T 1), (3, .sl i 0 x.W.length 1 none), (4, .bool false x.d), (5, .int false .i64 x.k)], bl := fun x => blkP h (T 1) ++ blkA h (T 3) i Th.strs x.W, src := fun _ => [(i, 3)], md := [bOf (T 3)], ih := i + 1, M := i + 80, meas := fun x => x.r }
noncomputable def St16 : Sum thy := sumP dTar (fun x => SmallT x.1) fun x => .bool false (tarF x.1)
theorem St16_ok : SumOk E 46 St16 := sumP_ok E_ok (good_of (f := 46) rfl) fun x h => t16_pure _ h.1 h.2
noncomputable def Sn16 : Sum thy := sumP dExp (fun x => x.1.sz < 1000000000000) fun x => .int false .i64 (nestX x.1 : Int)
theorem Sn16_ok : SumOk E 49 Sn16 := sumP_ok E_ok (good_of (f := 49) rfl) fun x h => n16_aux _ _ (Nat.le_refl _) (Nat.le_of_lt h)
noncomputable def Fc16 : Fns thy := addL (addL (addS (addS F0 46 St16) 49 Sn16) 48 2 Aix E) 19 8 Ac16 E
theorem Fc16_ok : FnsOk E Fc16 := addL_ok E_ok (addL_ok E_ok (addS_ok (addS_ok F0_ok St16_ok) Sn16_ok) _ _ _) _ _ _
--@cond c16 | 19 | Fc16 | 400 | (t : Tar) | [tarA t] | (v : Int) | .int false .i64 v
theorem cond_c16 (t : Tar) (v : Int) : callF E Fc16 (vc E Fc16 400) 19 [tarA t] hp0 0 (fun r => ret E (patch hp0 0 r) r.v (.int false .i64 v)) = (
  ((∀ (c : Cls), c ∈ Tar.clauses t → Ex.sz (Cls.pay c) + (1 : Nat) ≤ (1000000000 : Nat) ∧ List.length (Cls.when_ c) + (1 : Nat) ≤ (1000000000000 : Nat)) ∧ List.length (Tar.clauses t)
  + (1 : Nat) ≤ (1000000000000 : Nat)) ∧ ((!tarF t) = true → (1 : Int) = v) ∧ ((!tarF t) = false → ∃ (R : KX → Prop), (∃ (x : KX), R x ∧ true = true ∧ (((0 : Nat) = (0 : Nat) ∧ (40 :
  Nat) = (40 : Nat) ∧ (40 : Nat) = (40 : Nat)) ∧ Tar.name t = Tar.name t ∧ (0 : Int) = (↑(KX.k x) : Int) ∧ True) ∧ ([toL (ByteArray.mk #[(116 : UInt8), (97 : UInt8), (114 : UInt8),
  (105 : UInt8), (102 : UInt8), (102 : UInt8)]), toL (ByteArray.mk #[(102 : UInt8), (111 : UInt8), (114 : UInt8)]), toL (ByteArray.mk #[(99 : UInt8), (108 : UInt8), (97 : UInt8),
  (117 : UInt8), (115 : UInt8), (101 : UInt8)]), toL (ByteArray.mk #[(119 : UInt8), (104 : UInt8), (101 : UInt8), (110 : UInt8)]), toL (ByteArray.mk #[(97 : UInt8), (110 : UInt8),
  (100 : UInt8)]), toL (ByteArray.mk #[(105 : UInt8), (110 : UInt8)]), toL (ByteArray.mk #[(105 : UInt8), (115 : UInt8)]), toL (ByteArray.mk #[(112 : UInt8), (97 : UInt8), (121 :
  UInt8)]), toL (ByteArray.mk #[(109 : UInt8), (105 : UInt8), (110 : UInt8)]), toL (ByteArray.mk #[(109 : UInt8), (97 : UInt8), (120 : UInt8)]), toL (ByteArray.mk #[(100 : UInt8),
  (111 : UInt8), (119 : UInt8), (110 : UInt8)]), toL (ByteArray.mk #[(117 : UInt8), (112 : UInt8)]), toL (ByteArray.mk #[(104 : UInt8), (97 : UInt8), (108 : UInt8), (102 : UInt8)]),
  toL (ByteArray.mk #[(105 : UInt8), (102 : UInt8)]), toL (ByteArray.mk #[(109 : UInt8), (111 : UInt8), (110 : UInt8), (101 : UInt8), (121 : UInt8)]), toL (ByteArray.mk #[(109 :
  UInt8), (105 : UInt8), (110 : UInt8), (117 : UInt8), (116 : UInt8), (101 : UInt8)]), toL (ByteArray.mk #[(112 : UInt8), (101 : UInt8), (114 : UInt8)]), toL (ByteArray.mk #[(107 :
  UInt8), (103 : UInt8)]), toL (ByteArray.mk #[(116 : UInt8), (121 : UInt8), (112 : UInt8), (101 : UInt8)]), toL (ByteArray.mk #[(111 : UInt8), (119 : UInt8), (110 : UInt8), (101 :
  UInt8), (114 : UInt8)]), toL (ByteArray.mk #[(114 : UInt8), (97 : UInt8), (105 : UInt8), (108 : UInt8), (119 : UInt8), (97 : UInt8), (121 : UInt8)]), toL (ByteArray.mk #[(115 :
  UInt8), (104 : UInt8), (105 : UInt8), (112 : UInt8), (112 : UInt8), (101 : UInt8), (114 : UInt8)]), toL (ByteArray.mk #[(99 : UInt8), (108 : UInt8), (97 : UInt8), (115 : UInt8),
  (115 : UInt8)]), toL (ByteArray.mk #[(119 : UInt8), (101 : UInt8), (105 : UInt8), (103 : UInt8), (104 : UInt8), (116 : UInt8)]), toL (ByteArray.mk #[(107 : UInt8), (109 : UInt8)]),
  toL (ByteArray.mk #[(109 : UInt8), (105 : UInt8), (110 : UInt8), (117 : UInt8), (116 : UInt8), (101 : UInt8), (115 : UInt8)]), toL (ByteArray.mk #[(119 : UInt8), (111 : UInt8),
  (114 : UInt8), (107 : UInt8), (105 : UInt8), (110 : UInt8), (103 : UInt8)]), toL (ByteArray.mk #[(99 : UInt8), (111 : UInt8), (100 : UInt8), (101 : UInt8)]), toL (ByteArray.mk
  #[(119 : UInt8), (111 : UInt8), (114 : UInt8), (116 : UInt8), (104 : UInt8)]), toL (ByteArray.mk #[(99 : UInt8), (111 : UInt8), (115 : UInt8), (116 : UInt8)]), toL (ByteArray.mk
  #[(109 : UInt8), (111 : UInt8), (110 : UInt8), (116 : UInt8), (104 : UInt8)]), toL (ByteArray.mk #[(98 : UInt8), (101 : UInt8), (103 : UInt8), (105 : UInt8), (110 : UInt8)]), toL
  (ByteArray.mk #[(112 : UInt8), (97 : UInt8), (114 : UInt8), (116 : UInt8), (115 : UInt8)]), toL (ByteArray.mk #[(112 : UInt8), (97 : UInt8), (114 : UInt8), (116 : UInt8)]), toL
  (ByteArray.mk #[(104 : UInt8), (105 : UInt8), (114 : UInt8), (101 : UInt8)]), toL (ByteArray.mk #[(100 : UInt8), (101 : UInt8), (109 : UInt8), (117 : UInt8), (114 : UInt8), (114 :
  UInt8), (97 : UInt8), (103 : UInt8), (101 : UInt8)]), toL (ByteArray.mk #[(102 : UInt8), (114 : UInt8), (101 : UInt8), (105 : UInt8), (103 : UInt8), (104 : UInt8), (116 : UInt8)]),
  toL (ByteArray.mk #[(114 : UInt8), (101 : UInt8), (112 : UInt8), (97 : UInt8), (105 : UInt8), (114 : UInt8)]), toL (ByteArray.mk #[(108 : UInt8), (111 : UInt8), (115 : UInt8), (115
  : UInt8)]), toL (ByteArray.mk #[(99 : UInt8), (108 : UInt8), (101 : UInt8), (97 : UInt8), (110 : UInt8), (105 : UInt8), (110 : UInt8), (103 : UInt8)])] = [toL (ByteArray.mk #[(116
  : UInt8), (97 : UInt8), (114 : UInt8), (105 : UInt8), (102 : UInt8), (102 : UInt8)]), toL (ByteArray.mk #[(102 : UInt8), (111 : UInt8), (114 : UInt8)]), toL (ByteArray.mk #[(99 :
  UInt8), (108 : UInt8), (97 : UInt8), (117 : UInt8), (115 : UInt8), (101 : UInt8)]), toL (ByteArray.mk #[(119 : UInt8), (104 : UInt8), (101 : UInt8), (110 : UInt8)]), toL
  (ByteArray.mk #[(97 : UInt8), (110 : UInt8), (100 : UInt8)]), toL (ByteArray.mk #[(105 : UInt8), (110 : UInt8)]), toL (ByteArray.mk #[(105 : UInt8), (115 : UInt8)]), toL
  (ByteArray.mk #[(112 : UInt8), (97 : UInt8), (121 : UInt8)]), toL (ByteArray.mk #[(109 : UInt8), (105 : UInt8), (110 : UInt8)]), toL (ByteArray.mk #[(109 : UInt8), (97 : UInt8),
  (120 : UInt8)]), toL (ByteArray.mk #[(100 : UInt8), (111 : UInt8), (119 : UInt8), (110 : UInt8)]), toL (ByteArray.mk #[(117 : UInt8), (112 : UInt8)]), toL (ByteArray.mk #[(104 :
  UInt8), (97 : UInt8), (108 : UInt8), (102 : UInt8)]), toL (ByteArray.mk #[(105 : UInt8), (102 : UInt8)]), toL (ByteArray.mk #[(109 : UInt8), (111 : UInt8), (110 : UInt8), (101 :
  UInt8), (121 : UInt8)]), toL (ByteArray.mk #[(109 : UInt8), (105 : UInt8), (110 : UInt8), (117 : UInt8), (116 : UInt8), (101 : UInt8)]), toL (ByteArray.mk #[(112 : UInt8), (101 :
  UInt8), (114 : UInt8)]), toL (ByteArray.mk #[(107 : UInt8), (103 : UInt8)]), toL (ByteArray.mk #[(116 : UInt8), (121 : UInt8), (112 : UInt8), (101 : UInt8)]), toL (ByteArray.mk
  #[(111 : UInt8), (119 : UInt8), (110 : UInt8), (101 : UInt8), (114 : UInt8)]), toL (ByteArray.mk #[(114 : UInt8), (97 : UInt8), (105 : UInt8), (108 : UInt8), (119 : UInt8), (97 :
  UInt8), (121 : UInt8)]), toL (ByteArray.mk #[(115 : UInt8), (104 : UInt8), (105 : UInt8), (112 : UInt8), (112 : UInt8), (101 : UInt8), (114 : UInt8)]), toL (ByteArray.mk #[(99 :
  UInt8), (108 : UInt8), (97 : UInt8), (115 : UInt8), (115 : UInt8)]), toL (ByteArray.mk #[(119 : UInt8), (101 : UInt8), (105 : UInt8), (103 : UInt8), (104 : UInt8), (116 : UInt8)]),
  toL (ByteArray.mk #[(107 : UInt8), (109 : UInt8)]), toL (ByteArray.mk #[(109 : UInt8), (105 : UInt8), (110 : UInt8), (117 : UInt8), (116 : UInt8), (101 : UInt8), (115 : UInt8)]),
  toL (ByteArray.mk #[(119 : UInt8), (111 : UInt8), (114 : UInt8), (107 : UInt8), (105 : UInt8), (110 : UInt8), (103 : UInt8)]), toL (ByteArray.mk #[(99 : UInt8), (111 : UInt8), (100
  : UInt8), (101 : UInt8)]), toL (ByteArray.mk #[(119 : UInt8), (111 : UInt8), (114 : UInt8), (116 : UInt8), (104 : UInt8)]), toL (ByteArray.mk #[(99 : UInt8), (111 : UInt8), (115 :
  UInt8), (116 : UInt8)]), toL (ByteArray.mk #[(109 : UInt8), (111 : UInt8), (110 : UInt8), (116 : UInt8), (104 : UInt8)]), toL (ByteArray.mk #[(98 : UInt8), (101 : UInt8), (103 :
  UInt8), (105 : UInt8), (110 : UInt8)]), toL (ByteArray.mk #[(112 : UInt8), (97 : UInt8), (114 : UInt8), (116 : UInt8), (115 : UInt8)]), toL (ByteArray.mk #[(112 : UInt8), (97 :
  UInt8), (114 : UInt8), (116 : UInt8)]), toL (ByteArray.mk #[(104 : UInt8), (105 : UInt8), (114 : UInt8), (101 : UInt8)]), toL (ByteArray.mk #[(100 : UInt8), (101 : UInt8), (109 :
  UInt8), (117 : UInt8), (114 : UInt8), (114 : UInt8), (97 : UInt8), (103 : UInt8), (101 : UInt8)]), toL (ByteArray.mk #[(102 : UInt8), (114 : UInt8), (101 : UInt8), (105 : UInt8),
  (103 : UInt8), (104 : UInt8), (116 : UInt8)]), toL (ByteArray.mk #[(114 : UInt8), (101 : UInt8), (112 : UInt8), (97 : UInt8), (105 : UInt8), (114 : UInt8)]), toL (ByteArray.mk
  #[(108 : UInt8), (111 : UInt8), (115 : UInt8), (115 : UInt8)]), toL (ByteArray.mk #[(99 : UInt8), (108 : UInt8), (101 : UInt8), (97 : UInt8), (110 : UInt8), (105 : UInt8), (110 :
  UInt8), (103 : UInt8)])] ∧ (0 : Nat) = (0 : Nat)) ∧ True) ∧ ∀ (x : KX), R x → (decide ((↑(KX.k x) : Int) < (↑(40 : Nat) : Int)) = true → ((0 : Int) ≤ (↑(KX.k x) : Int) ∧ (↑(KX.k x)
  : Int) + (1 : Int) ≤ (↑(40 : Nat) : Int)) ∧ (0 : Nat) + Int.toNat (↑(KX.k x) : Int) + (1 : Nat) ≤ (40 : Nat) ∧ ∀ (x_1 : List Nat), [toL (ByteArray.mk #[(116 : UInt8), (97 : UInt8),
  (114 : UInt8), (105 : UInt8), (102 : UInt8), (102 : UInt8)]), toL (ByteArray.mk #[(102 : UInt8), (111 : UInt8), (114 : UInt8)]), toL (ByteArray.mk #[(99 : UInt8), (108 : UInt8),
  (97 : UInt8), (117 : UInt8), (115 : UInt8), (101 : UInt8)]), toL (ByteArray.mk #[(119 : UInt8), (104 : UInt8), (101 : UInt8), (110 : UInt8)]), toL (ByteArray.mk #[(97 : UInt8),
  (110 : UInt8), (100 : UInt8)]), toL (ByteArray.mk #[(105 : UInt8), (110 : UInt8)]), toL (ByteArray.mk #[(105 : UInt8), (115 : UInt8)]), toL (ByteArray.mk #[(112 : UInt8), (97 :
  UInt8), (121 : UInt8)]), toL (ByteArray.mk #[(109 : UInt8), (105 : UInt8), (110 : UInt8)]), toL (ByteArray.mk #[(109 : UInt8), (97 : UInt8), (120 : UInt8)]), toL (ByteArray.mk
  #[(100 : UInt8), (111 : UInt8), (119 : UInt8), (110 : UInt8)]), toL (ByteArray.mk #[(117 : UInt8), (112 : UInt8)]), toL (ByteArray.mk #[(104 : UInt8), (97 : UInt8), (108 : UInt8),
  (102 : UInt8)]), toL (ByteArray.mk #[(105 : UInt8), (102 : UInt8)]), toL (ByteArray.mk #[(109 : UInt8), (111 : UInt8), (110 : UInt8), (101 : UInt8), (121 : UInt8)]), toL
  (ByteArray.mk #[(109 : UInt8), (105 : UInt8), (110 : UInt8), (117 : UInt8), (116 : UInt8), (101 : UInt8)]), toL (ByteArray.mk #[(112 : UInt8), (101 : UInt8), (114 : UInt8)]), toL
  (ByteArray.mk #[(107 : UInt8), (103 : UInt8)]), toL (ByteArray.mk #[(116 : UInt8), (121 : UInt8), (112 : UInt8), (101 : UInt8)]), toL (ByteArray.mk #[(111 : UInt8), (119 : UInt8),
  (110 : UInt8), (101 : UInt8), (114 : UInt8)]), toL (ByteArray.mk #[(114 : UInt8), (97 : UInt8), (105 : UInt8), (108 : UInt8), (119 : UInt8), (97 : UInt8), (121 : UInt8)]), toL
  (ByteArray.mk #[(115 : UInt8), (104 : UInt8), (105 : UInt8), (112 : UInt8), (112 : UInt8), (101 : UInt8), (114 : UInt8)]), toL (ByteArray.mk #[(99 : UInt8), (108 : UInt8), (97 :
  UInt8), (115 : UInt8), (115 : UInt8)]), toL (ByteArray.mk #[(119 : UInt8), (101 : UInt8), (105 : UInt8), (103 : UInt8), (104 : UInt8), (116 : UInt8)]), toL (ByteArray.mk #[(107 :
  UInt8), (109 : UInt8)]), toL (ByteArray.mk #[(109 : UInt8), (105 : UInt8), (110 : UInt8), (117 : UInt8), (116 : UInt8), (101 : UInt8), (115 : UInt8)]), toL (ByteArray.mk #[(119 :
  UInt8), (111 : UInt8), (114 : UInt8), (107 : UInt8), (105 : UInt8), (110 : UInt8), (103 : UInt8)]), toL (ByteArray.mk #[(99 : UInt8), (111 : UInt8), (100 : UInt8), (101 : UInt8)]),
  toL (ByteArray.mk #[(119 : UInt8), (111 : UInt8), (114 : UInt8), (116 : UInt8), (104 : UInt8)]), toL (ByteArray.mk #[(99 : UInt8), (111 : UInt8), (115 : UInt8), (116 : UInt8)]),
  toL (ByteArray.mk #[(109 : UInt8), (111 : UInt8), (110 : UInt8), (116 : UInt8), (104 : UInt8)]), toL (ByteArray.mk #[(98 : UInt8), (101 : UInt8), (103 : UInt8), (105 : UInt8), (110
  : UInt8)]), toL (ByteArray.mk #[(112 : UInt8), (97 : UInt8), (114 : UInt8), (116 : UInt8), (115 : UInt8)]), toL (ByteArray.mk #[(112 : UInt8), (97 : UInt8), (114 : UInt8), (116 :
  UInt8)]), toL (ByteArray.mk #[(104 : UInt8), (105 : UInt8), (114 : UInt8), (101 : UInt8)]), toL (ByteArray.mk #[(100 : UInt8), (101 : UInt8), (109 : UInt8), (117 : UInt8), (114 :
  UInt8), (114 : UInt8), (97 : UInt8), (103 : UInt8), (101 : UInt8)]), toL (ByteArray.mk #[(102 : UInt8), (114 : UInt8), (101 : UInt8), (105 : UInt8), (103 : UInt8), (104 : UInt8),
  (116 : UInt8)]), toL (ByteArray.mk #[(114 : UInt8), (101 : UInt8), (112 : UInt8), (97 : UInt8), (105 : UInt8), (114 : UInt8)]), toL (ByteArray.mk #[(108 : UInt8), (111 : UInt8),
  (115 : UInt8), (115 : UInt8)]), toL (ByteArray.mk #[(99 : UInt8), (108 : UInt8), (101 : UInt8), (97 : UInt8), (110 : UInt8), (105 : UInt8), (110 : UInt8), (103 : UInt8)])][(0 :
  Nat) + Int.toNat (↑(KX.k x) : Int)]? = some x_1 → ((x_1 == Tar.name t) = true → (decide ((↑(KX.k x) : Int) ≥ (0 : Int)) = true → (161 : Int) = v) ∧ (decide ((↑(KX.k x) : Int) ≥ (0
  : Int)) = false → (decide ((↑(List.length (Tar.clauses t)) : Int) > (64 : Int)) = true → ∃ (R : C16X → Prop), (∃ (x : C16X), R x ∧ true = true ∧ ((0 : Nat) = (0 : Nat) ∧ ((0 : Nat)
  = (0 : Nat) ∧ (40 : Nat) = List.length (C16X.W x) ∧ True) ∧ true = C16X.d x ∧ (0 : Int) = (↑(C16X.k x) : Int) ∧ True) ∧ (Tar.name t = Tar.name t ∧ Tar.for_ t = Tar.for_ t ∧
  (Tar.clauses t = Tar.clauses t ∧ (false = true → false = true)) ∧ True) ∧ ([toL (ByteArray.mk #[(116 : UInt8), (97 : UInt8), (114 : UInt8), (105 : UInt8), (102 : UInt8), (102 :
  UInt8)]), toL (ByteArray.mk #[(102 : UInt8), (111 : UInt8), (114 : UInt8)]), toL (ByteArray.mk #[(99 : UInt8), (108 : UInt8), (97 : UInt8), (117 : UInt8), (115 : UInt8), (101 :
  UInt8)]), toL (ByteArray.mk #[(119 : UInt8), (104 : UInt8), (101 : UInt8), (110 : UInt8)]), toL (ByteArray.mk #[(97 : UInt8), (110 : UInt8), (100 : UInt8)]), toL (ByteArray.mk
  #[(105 : UInt8), (110 : UInt8)]), toL (ByteArray.mk #[(105 : UInt8), (115 : UInt8)]), toL (ByteArray.mk #[(112 : UInt8), (97 : UInt8), (121 : UInt8)]), toL (ByteArray.mk #[(109 :
  UInt8), (105 : UInt8), (110 : UInt8)]), toL (ByteArray.mk #[(109 : UInt8), (97 : UInt8), (120 : UInt8)]), toL (ByteArray.mk #[(100 : UInt8), (111 : UInt8), (119 : UInt8), (110 :
  UInt8)]), toL (ByteArray.mk #[(117 : UInt8), (112 : UInt8)]), toL (ByteArray.mk #[(104 : UInt8), (97 : UInt8), (108 : UInt8), (102 : UInt8)]), toL (ByteArray.mk #[(105 : UInt8),
  (102 : UInt8)]), toL (ByteArray.mk #[(109 : UInt8), (111 : UInt8), (110 : UInt8), (101 : UInt8), (121 : UInt8)]), toL (ByteArray.mk #[(109 : UInt8), (105 : UInt8), (110 : UInt8),
  (117 : UInt8), (116 : UInt8), (101 : UInt8)]), toL (ByteArray.mk #[(112 : UInt8), (101 : UInt8), (114 : UInt8)]), toL (ByteArray.mk #[(107 : UInt8), (103 : UInt8)]), toL
  (ByteArray.mk #[(116 : UInt8), (121 : UInt8), (112 : UInt8), (101 : UInt8)]), toL (ByteArray.mk #[(111 : UInt8), (119 : UInt8), (110 : UInt8), (101 : UInt8), (114 : UInt8)]), toL
  (ByteArray.mk #[(114 : UInt8), (97 : UInt8), (105 : UInt8), (108 : UInt8), (119 : UInt8), (97 : UInt8), (121 : UInt8)]), toL (ByteArray.mk #[(115 : UInt8), (104 : UInt8), (105 :
  UInt8), (112 : UInt8), (112 : UInt8), (101 : UInt8), (114 : UInt8)]), toL (ByteArray.mk #[(99 : UInt8), (108 : UInt8), (97 : UInt8), (115 : UInt8), (115 : UInt8)]), toL
  (ByteArray.mk #[(119 : UInt8), (101 : UInt8), (105 : UInt8), (103 : UInt8), (104 : UInt8), (116 : UInt8)]), toL (ByteArray.mk #[(107 : UInt8), (109 : UInt8)]), toL (ByteArray.mk
  #[(109 : UInt8), (105 : UInt8), (110 : UInt8), (117 : UInt8), (116 : UInt8), (101 : UInt8), (115 : UInt8)]), toL (ByteArray.mk #[(119 : UInt8), (111 : UInt8), (114 : UInt8), (107 :
  UInt8), (105 : UInt8), (110 : UInt8), (103 : UInt8)]), toL (ByteArray.mk #[(99 : UInt8), (111 : UInt8), (100 : UInt8), (101 : UInt8)]), toL (ByteArray.mk #[(119 : UInt8), (111 :
  UInt8), (114 : UInt8), (116 : UInt8), (104 : UInt8)]), toL (ByteArray.mk #[(99 : UInt8), (111 : UInt8), (115 : UInt8), (116 : UInt8)]), toL (ByteArray.mk #[(109 : UInt8), (111 :
  UInt8), (110 : UInt8), (116 : UInt8), (104 : UInt8)]), toL (ByteArray.mk #[(98 : UInt8), (101 : UInt8), (103 : UInt8), (105 : UInt8), (110 : UInt8)]), toL (ByteArray.mk #[(112 :
  UInt8), (97 : UInt8), (114 : UInt8), (116 : UInt8), (115 : UInt8)]), toL (ByteArray.mk #[(112 : UInt8), (97 : UInt8), (114 : UInt8), (116 : UInt8)]), toL (ByteArray.mk #[(104 :
  UInt8), (105 : UInt8), (114 : UInt8), (101 : UInt8)]), toL (ByteArray.mk #[(100 : UInt8), (101 : UInt8), (109 : UInt8), (117 : UInt8), (114 : UInt8), (114 : UInt8), (97 : UInt8),
  (103 : UInt8), (101 : UInt8)]), toL (ByteArray.mk #[(102 : UInt8), (114 : UInt8), (101 : UInt8), (105 : UInt8), (103 : UInt8), (104 : UInt8), (116 : UInt8)]), toL (ByteArray.mk
  #[(114 : UInt8), (101 : UInt8), (112 : UInt8), (97 : UInt8), (105 : UInt8), (114 : UInt8)]), toL (ByteArray.mk #[(108 : UInt8), (111 : UInt8), (115 : UInt8), (115 : UInt8)]), toL
  (ByteArray.mk #[(99 : UInt8), (108 : UInt8), (101 : UInt8), (97 : UInt8), (110 : UInt8), (105 : UInt8), (110 : UInt8), (103 : UInt8)])] = C16X.W x ∧ (0 : Nat) = (0 : Nat)) ∧ True)
  ∧ ∀ (x : C16X), R x → (decide ((↑(C16X.k x) : Int) < (↑(List.length (Tar.clauses t)) : Int)) = true → (0 : Int) ≤ (↑(C16X.k x) : Int) ∧ (↑(C16X.k x) : Int) + (1 : Int) ≤
  (↑(List.length (Tar.clauses t)) : Int) ∧ ∀ (x_2 : Cls), (Tar.clauses t)[Int.toNat (↑(C16X.k x) : Int)]? = some x_2 → ∃ (R_1 : KX → Prop), (∃ (x_3 : KX), R_1 x_3 ∧ true = true ∧
  (((0 : Nat) = (0 : Nat) ∧ List.length (C16X.W x) = List.length (C16X.W x) ∧ True) ∧ Cls.name x_2 = Cls.name x_2 ∧ (0 : Int) = (↑(KX.k x_3) : Int) ∧ True) ∧ (C16X.W x = C16X.W x ∧
  (0 : Nat) = (0 : Nat)) ∧ True) ∧ ∀ (x_3 : KX), R_1 x_3 → (decide ((↑(KX.k x_3) : Int) < (↑(List.length (C16X.W x)) : Int)) = true → ((0 : Int) ≤ (↑(KX.k x_3) : Int) ∧ (↑(KX.k x_3)
  : Int) + (1 : Int) ≤ (↑(List.length (C16X.W x)) : Int)) ∧ (0 : Nat) + Int.toNat (↑(KX.k x_3) : Int) + (1 : Nat) ≤ List.length (C16X.W x) ∧ ∀ (x_4 : List Nat), (C16X.W x)[(0 : Nat)
  + Int.toNat (↑(KX.k x_3) : Int)]? = some x_4 → ((x_4 == Cls.name x_2) = true → (decide ((↑(KX.k x_3) : Int) ≥ (0 : Int)) = true → (161 : Int) = v) ∧ (decide ((↑(KX.k x_3) : Int) ≥
  (0 : Int)) = false → (0 : Nat) + (1 : Nat) ≤ (1 : Nat) ∧ (List.take (1 : Nat) [Cls.name x_2] = [] → (C16X.d x = true → ∃ (x_5 : C16X), R x_5 ∧ x_5.2 + (1 : Nat) ≤ x.2 ∧ true = true
  ∧ ((0 : Nat) = (0 : Nat) ∧ ((0 : Nat) = (0 : Nat) ∧ List.length (C16X.W x) = List.length (C16X.W x_5) ∧ True) ∧ true = C16X.d x_5 ∧ wr IntKind.i64 ((↑(C16X.k x) : Int) + (1 : Int))
  = (↑(C16X.k x_5) : Int) ∧ True) ∧ (Tar.name t = Tar.name t ∧ Tar.for_ t = Tar.for_ t ∧ (Tar.clauses t = Tar.clauses t ∧ (false = true → false = true)) ∧ True) ∧ (C16X.W x = C16X.W
  x_5 ∧ (0 : Nat) = (0 : Nat)) ∧ True) ∧ (C16X.d x = false → (decide ((↑(List.length (Cls.when_ x_2)) : Int) > (8 : Int)) = true → ∃ (x_5 : C16X), R x_5 ∧ x_5.2 + (1 : Nat) ≤ x.2 ∧
  true = true ∧ ((0 : Nat) = (0 : Nat) ∧ ((0 : Nat) = (0 : Nat) ∧ List.length (C16X.W x) = List.length (C16X.W x_5) ∧ True) ∧ true = C16X.d x_5 ∧ wr IntKind.i64 ((↑(C16X.k x) : Int)
  + (1 : Int)) = (↑(C16X.k x_5) : Int) ∧ True) ∧ (Tar.name t = Tar.name t ∧ Tar.for_ t = Tar.for_ t ∧ (Tar.clauses t = Tar.clauses t ∧ (false = true → false = true)) ∧ True) ∧
  (C16X.W x = C16X.W x_5 ∧ (0 : Nat) = (0 : Nat)) ∧ True) ∧ (decide ((↑(List.length (Cls.when_ x_2)) : Int) > (8 : Int)) = false → Ex.sz (Ex.mk (Ex.op (Cls.pay x_2)) (Ex.n (Cls.pay
  x_2)) (Ex.d0 (Cls.pay x_2)) (Ex.d1 (Cls.pay x_2)) (Ex.d2 (Cls.pay x_2)) (Ex.d3 (Cls.pay x_2)) (Ex.l (Cls.pay x_2))) + (1 : Nat) ≤ (1000000000000 : Nat) ∧ (decide ((↑(nestX (Ex.mk
  (Ex.op (Cls.pay x_2)) (Ex.n (Cls.pay x_2)) (Ex.d0 (Cls.pay x_2)) (Ex.d1 (Cls.pay x_2)) (Ex.d2 (Cls.pay x_2)) (Ex.d3 (Cls.pay x_2)) (Ex.l (Cls.pay x_2)))) : Int) > (24 : Int)) =
  true → ∃ (x_5 : C16X), R x_5 ∧ x_5.2 + (1 : Nat) ≤ x.2 ∧ true = true ∧ ((0 : Nat) = (0 : Nat) ∧ ((0 : Nat) = (0 : Nat) ∧ List.length (C16X.W x) = List.length (C16X.W x_5) ∧ True) ∧
  true = C16X.d x_5 ∧ wr IntKind.i64 ((↑(C16X.k x) : Int) + (1 : Int)) = (↑(C16X.k x_5) : Int) ∧ True) ∧ (Tar.name t = Tar.name t ∧ Tar.for_ t = Tar.for_ t ∧ (Tar.clauses t =
  Tar.clauses t ∧ (false = true → false = true)) ∧ True) ∧ (C16X.W x = C16X.W x_5 ∧ (0 : Nat) = (0 : Nat)) ∧ True) ∧ (decide ((↑(nestX (Ex.mk (Ex.op (Cls.pay x_2)) (Ex.n (Cls.pay
  x_2)) (Ex.d0 (Cls.pay x_2)) (Ex.d1 (Cls.pay x_2)) (Ex.d2 (Cls.pay x_2)) (Ex.d3 (Cls.pay x_2)) (Ex.l (Cls.pay x_2)))) : Int) > (24 : Int)) = false → ∃ (x_5 : C16X), R x_5 ∧ x_5.2 +
  (1 : Nat) ≤ x.2 ∧ true = true ∧ ((0 : Nat) = (0 : Nat) ∧ ((0 : Nat) = (0 : Nat) ∧ List.length (C16X.W x) = List.length (C16X.W x_5) ∧ True) ∧ false = C16X.d x_5 ∧ wr IntKind.i64
  ((↑(C16X.k x) : Int) + (1 : Int)) = (↑(C16X.k x_5) : Int) ∧ True) ∧ (Tar.name t = Tar.name t ∧ Tar.for_ t = Tar.for_ t ∧ (Tar.clauses t = Tar.clauses t ∧ (false = true → false =
  true)) ∧ True) ∧ (C16X.W x = C16X.W x_5 ∧ (0 : Nat) = (0 : Nat)) ∧ True)))) ∧ (List.take (1 : Nat) [Cls.name x_2] ≠ [] → (List.length (C16X.W x) ≤ List.length (C16X.W x) ∧ (0 :
  Nat) ≤ List.length (C16X.W x) ∧ (List.length (C16X.W x) + List.length (List.take (1 : Nat) [Cls.name x_2])) * (16 : Nat) ≤ (140737488355328 : Nat)) ∧ (C16X.d x = true → ∃ (x_5 :
  C16X), R x_5 ∧ x_5.2 + (1 : Nat) ≤ x.2 ∧ true = true ∧ ((0 : Nat) = (0 : Nat) ∧ ((0 : Nat) = (0 : Nat) ∧ List.length (C16X.W x) + List.length (List.take (1 : Nat) [Cls.name x_2]) =
  List.length (C16X.W x_5) ∧ True) ∧ true = C16X.d x_5 ∧ wr IntKind.i64 ((↑(C16X.k x) : Int) + (1 : Int)) = (↑(C16X.k x_5) : Int) ∧ True) ∧ (Tar.name t = Tar.name t ∧ Tar.for_ t =
  Tar.for_ t ∧ (Tar.clauses t = Tar.clauses t ∧ (false = true → false = true)) ∧ True) ∧ (List.take (List.length (C16X.W x)) (C16X.W x) ++ List.take (1 : Nat) [Cls.name x_2] = C16X.W
  x_5 ∧ (0 : Nat) = (0 : Nat)) ∧ True) ∧ (C16X.d x = false → (decide ((↑(List.length (Cls.when_ x_2)) : Int) > (8 : Int)) = true → ∃ (x_5 : C16X), R x_5 ∧ x_5.2 + (1 : Nat) ≤ x.2 ∧
  true = true ∧ ((0 : Nat) = (0 : Nat) ∧ ((0 : Nat) = (0 : Nat) ∧ List.length (C16X.W x) + List.length (List.take (1 : Nat) [Cls.name x_2]) = List.length (C16X.W x_5) ∧ True) ∧ true
  = C16X.d x_5 ∧ wr IntKind.i64 ((↑(C16X.k x) : Int) + (1 : Int)) = (↑(C16X.k x_5) : Int) ∧ True) ∧ (Tar.name t = Tar.name t ∧ Tar.for_ t = Tar.for_ t ∧ (Tar.clauses t = Tar.clauses
  t ∧ (false = true → false = true)) ∧ True) ∧ (List.take (List.length (C16X.W x)) (C16X.W x) ++ List.take (1 : Nat) [Cls.name x_2] = C16X.W x_5 ∧ (0 : Nat) = (0 : Nat)) ∧ True) ∧
  (decide ((↑(List.length (Cls.when_ x_2)) : Int) > (8 : Int)) = false → Ex.sz (Ex.mk (Ex.op (Cls.pay x_2)) (Ex.n (Cls.pay x_2)) (Ex.d0 (Cls.pay x_2)) (Ex.d1 (Cls.pay x_2)) (Ex.d2
  (Cls.pay x_2)) (Ex.d3 (Cls.pay x_2)) (Ex.l (Cls.pay x_2))) + (1 : Nat) ≤ (1000000000000 : Nat) ∧ (decide ((↑(nestX (Ex.mk (Ex.op (Cls.pay x_2)) (Ex.n (Cls.pay x_2)) (Ex.d0 (Cls.pay
  x_2)) (Ex.d1 (Cls.pay x_2)) (Ex.d2 (Cls.pay x_2)) (Ex.d3 (Cls.pay x_2)) (Ex.l (Cls.pay x_2)))) : Int) > (24 : Int)) = true → ∃ (x_5 : C16X), R x_5 ∧ x_5.2 + (1 : Nat) ≤ x.2 ∧ true
  = true ∧ ((0 : Nat) = (0 : Nat) ∧ ((0 : Nat) = (0 : Nat) ∧ List.length (C16X.W x) + List.length (List.take (1 : Nat) [Cls.name x_2]) = List.length (C16X.W x_5) ∧ True) ∧ true =
  C16X.d x_5 ∧ wr IntKind.i64 ((↑(C16X.k x) : Int) + (1 : Int)) = (↑(C16X.k x_5) : Int) ∧ True) ∧ (Tar.name t = Tar.name t ∧ Tar.for_ t = Tar.for_ t ∧ (Tar.clauses t = Tar.clauses t
  ∧ (false = true → false = true)) ∧ True) ∧ (List.take (List.length (C16X.W x)) (C16X.W x) ++ List.take (1 : Nat) [Cls.name x_2] = C16X.W x_5 ∧ (0 : Nat) = (0 : Nat)) ∧ True) ∧
  (decide ((↑(nestX (Ex.mk (Ex.op (Cls.pay x_2)) (Ex.n (Cls.pay x_2)) (Ex.d0 (Cls.pay x_2)) (Ex.d1 (Cls.pay x_2)) (Ex.d2 (Cls.pay x_2)) (Ex.d3 (Cls.pay x_2)) (Ex.l (Cls.pay x_2)))) :
  Int) > (24 : Int)) = false → ∃ (x_5 : C16X), R x_5 ∧ x_5.2 + (1 : Nat) ≤ x.2 ∧ true = true ∧ ((0 : Nat) = (0 : Nat) ∧ ((0 : Nat) = (0 : Nat) ∧ List.length (C16X.W x) + List.length
  (List.take (1 : Nat) [Cls.name x_2]) = List.length (C16X.W x_5) ∧ True) ∧ false = C16X.d x_5 ∧ wr IntKind.i64 ((↑(C16X.k x) : Int) + (1 : Int)) = (↑(C16X.k x_5) : Int) ∧ True) ∧
  (Tar.name t = Tar.name t ∧ Tar.for_ t = Tar.for_ t ∧ (Tar.clauses t = Tar.clauses t ∧ (false = true → false = true)) ∧ True) ∧ (List.take (List.length (C16X.W x)) (C16X.W x) ++
  List.take (1 : Nat) [Cls.name x_2] = C16X.W x_5 ∧ (0 : Nat) = (0 : Nat)) ∧ True)))))) ∧ ((x_4 == Cls.name x_2) = false → ∃ (x_5 : KX), R_1 x_5 ∧ x_5.2 + (1 : Nat) ≤ x_3.2 ∧ true =
  true ∧ (((0 : Nat) = (0 : Nat) ∧ List.length (C16X.W x) = List.length (C16X.W x) ∧ True) ∧ Cls.name x_2 = Cls.name x_2 ∧ wr IntKind.i64 ((↑(KX.k x_3) : Int) + (1 : Int)) = (↑(KX.k
  x_5) : Int) ∧ True) ∧ (C16X.W x = C16X.W x ∧ (0 : Nat) = (0 : Nat)) ∧ True)) ∧ (decide ((↑(KX.k x_3) : Int) < (↑(List.length (C16X.W x)) : Int)) = false → (0 : Nat) + (1 : Nat) ≤
  (1 : Nat) ∧ (List.take (1 : Nat) [Cls.name x_2] = [] → (C16X.d x = true → ∃ (x_4 : C16X), R x_4 ∧ x_4.2 + (1 : Nat) ≤ x.2 ∧ true = true ∧ ((0 : Nat) = (0 : Nat) ∧ ((0 : Nat) = (0 :
  Nat) ∧ List.length (C16X.W x) = List.length (C16X.W x_4) ∧ True) ∧ true = C16X.d x_4 ∧ wr IntKind.i64 ((↑(C16X.k x) : Int) + (1 : Int)) = (↑(C16X.k x_4) : Int) ∧ True) ∧ (Tar.name
  t = Tar.name t ∧ Tar.for_ t = Tar.for_ t ∧ (Tar.clauses t = Tar.clauses t ∧ (false = true → false = true)) ∧ True) ∧ (C16X.W x = C16X.W x_4 ∧ (0 : Nat) = (0 : Nat)) ∧ True) ∧
  (C16X.d x = false → (decide ((↑(List.length (Cls.when_ x_2)) : Int) > (8 : Int)) = true → ∃ (x_4 : C16X), R x_4 ∧ x_4.2 + (1 : Nat) ≤ x.2 ∧ true = true ∧ ((0 : Nat) = (0 : Nat) ∧
  ((0 : Nat) = (0 : Nat) ∧ List.length (C16X.W x) = List.length (C16X.W x_4) ∧ True) ∧ true = C16X.d x_4 ∧ wr IntKind.i64 ((↑(C16X.k x) : Int) + (1 : Int)) = (↑(C16X.k x_4) : Int) ∧
  True) ∧ (Tar.name t = Tar.name t ∧ Tar.for_ t = Tar.for_ t ∧ (Tar.clauses t = Tar.clauses t ∧ (false = true → false = true)) ∧ True) ∧ (C16X.W x = C16X.W x_4 ∧ (0 : Nat) = (0 :
  Nat)) ∧ True) ∧ (decide ((↑(List.length (Cls.when_ x_2)) : Int) > (8 : Int)) = false → Ex.sz (Ex.mk (Ex.op (Cls.pay x_2)) (Ex.n (Cls.pay x_2)) (Ex.d0 (Cls.pay x_2)) (Ex.d1 (Cls.pay
  x_2)) (Ex.d2 (Cls.pay x_2)) (Ex.d3 (Cls.pay x_2)) (Ex.l (Cls.pay x_2))) + (1 : Nat) ≤ (1000000000000 : Nat) ∧ (decide ((↑(nestX (Ex.mk (Ex.op (Cls.pay x_2)) (Ex.n (Cls.pay x_2))
  (Ex.d0 (Cls.pay x_2)) (Ex.d1 (Cls.pay x_2)) (Ex.d2 (Cls.pay x_2)) (Ex.d3 (Cls.pay x_2)) (Ex.l (Cls.pay x_2)))) : Int) > (24 : Int)) = true → ∃ (x_4 : C16X), R x_4 ∧ x_4.2 + (1 :
  Nat) ≤ x.2 ∧ true = true ∧ ((0 : Nat) = (0 : Nat) ∧ ((0 : Nat) = (0 : Nat) ∧ List.length (C16X.W x) = List.length (C16X.W x_4) ∧ True) ∧ true = C16X.d x_4 ∧ wr IntKind.i64
  ((↑(C16X.k x) : Int) + (1 : Int)) = (↑(C16X.k x_4) : Int) ∧ True) ∧ (Tar.name t = Tar.name t ∧ Tar.for_ t = Tar.for_ t ∧ (Tar.clauses t = Tar.clauses t ∧ (false = true → false =
  true)) ∧ True) ∧ (C16X.W x = C16X.W x_4 ∧ (0 : Nat) = (0 : Nat)) ∧ True) ∧ (decide ((↑(nestX (Ex.mk (Ex.op (Cls.pay x_2)) (Ex.n (Cls.pay x_2)) (Ex.d0 (Cls.pay x_2)) (Ex.d1 (Cls.pay
  x_2)) (Ex.d2 (Cls.pay x_2)) (Ex.d3 (Cls.pay x_2)) (Ex.l (Cls.pay x_2)))) : Int) > (24 : Int)) = false → ∃ (x_4 : C16X), R x_4 ∧ x_4.2 + (1 : Nat) ≤ x.2 ∧ true = true ∧ ((0 : Nat) =
  (0 : Nat) ∧ ((0 : Nat) = (0 : Nat) ∧ List.length (C16X.W x) = List.length (C16X.W x_4) ∧ True) ∧ false = C16X.d x_4 ∧ wr IntKind.i64 ((↑(C16X.k x) : Int) + (1 : Int)) = (↑(C16X.k
  x_4) : Int) ∧ True) ∧ (Tar.name t = Tar.name t ∧ Tar.for_ t = Tar.for_ t ∧ (Tar.clauses t = Tar.clauses t ∧ (false = true → false = true)) ∧ True) ∧ (C16X.W x = C16X.W x_4 ∧ (0 :
  Nat) = (0 : Nat)) ∧ True)))) ∧ (List.take (1 : Nat) [Cls.name x_2] ≠ [] → (List.length (C16X.W x) ≤ List.length (C16X.W x) ∧ (0 : Nat) ≤ List.length (C16X.W x) ∧ (List.length
  (C16X.W x) + List.length (List.take (1 : Nat) [Cls.name x_2])) * (16 : Nat) ≤ (140737488355328 : Nat)) ∧ (C16X.d x = true → ∃ (x_4 : C16X), R x_4 ∧ x_4.2 + (1 : Nat) ≤ x.2 ∧ true =
  true ∧ ((0 : Nat) = (0 : Nat) ∧ ((0 : Nat) = (0 : Nat) ∧ List.length (C16X.W x) + List.length (List.take (1 : Nat) [Cls.name x_2]) = List.length (C16X.W x_4) ∧ True) ∧ true =
  C16X.d x_4 ∧ wr IntKind.i64 ((↑(C16X.k x) : Int) + (1 : Int)) = (↑(C16X.k x_4) : Int) ∧ True) ∧ (Tar.name t = Tar.name t ∧ Tar.for_ t = Tar.for_ t ∧ (Tar.clauses t = Tar.clauses t
  ∧ (false = true → false = true)) ∧ True) ∧ (List.take (List.length (C16X.W x)) (C16X.W x) ++ List.take (1 : Nat) [Cls.name x_2] = C16X.W x_4 ∧ (0 : Nat) = (0 : Nat)) ∧ True) ∧
  (C16X.d x = false → (decide ((↑(List.length (Cls.when_ x_2)) : Int) > (8 : Int)) = true → ∃ (x_4 : C16X), R x_4 ∧ x_4.2 + (1 : Nat) ≤ x.2 ∧ true = true ∧ ((0 : Nat) = (0 : Nat) ∧
  ((0 : Nat) = (0 : Nat) ∧ List.length (C16X.W x) + List.length (List.take (1 : Nat) [Cls.name x_2]) = List.length (C16X.W x_4) ∧ True) ∧ true = C16X.d x_4 ∧ wr IntKind.i64
  ((↑(C16X.k x) : Int) + (1 : Int)) = (↑(C16X.k x_4) : Int) ∧ True) ∧ (Tar.name t = Tar.name t ∧ Tar.for_ t = Tar.for_ t ∧ (Tar.clauses t = Tar.clauses t ∧ (false = true → false =
  true)) ∧ True) ∧ (List.take (List.length (C16X.W x)) (C16X.W x) ++ List.take (1 : Nat) [Cls.name x_2] = C16X.W x_4 ∧ (0 : Nat) = (0 : Nat)) ∧ True) ∧ (decide ((↑(List.length
  (Cls.when_ x_2)) : Int) > (8 : Int)) = false → Ex.sz (Ex.mk (Ex.op (Cls.pay x_2)) (Ex.n (Cls.pay x_2)) (Ex.d0 (Cls.pay x_2)) (Ex.d1 (Cls.pay x_2)) (Ex.d2 (Cls.pay x_2)) (Ex.d3
  (Cls.pay x_2)) (Ex.l (Cls.pay x_2))) + (1 : Nat) ≤ (1000000000000 : Nat) ∧ (decide ((↑(nestX (Ex.mk (Ex.op (Cls.pay x_2)) (Ex.n (Cls.pay x_2)) (Ex.d0 (Cls.pay x_2)) (Ex.d1 (Cls.pay
  x_2)) (Ex.d2 (Cls.pay x_2)) (Ex.d3 (Cls.pay x_2)) (Ex.l (Cls.pay x_2)))) : Int) > (24 : Int)) = true → ∃ (x_4 : C16X), R x_4 ∧ x_4.2 + (1 : Nat) ≤ x.2 ∧ true = true ∧ ((0 : Nat) =
  (0 : Nat) ∧ ((0 : Nat) = (0 : Nat) ∧ List.length (C16X.W x) + List.length (List.take (1 : Nat) [Cls.name x_2]) = List.length (C16X.W x_4) ∧ True) ∧ true = C16X.d x_4 ∧ wr
  IntKind.i64 ((↑(C16X.k x) : Int) + (1 : Int)) = (↑(C16X.k x_4) : Int) ∧ True) ∧ (Tar.name t = Tar.name t ∧ Tar.for_ t = Tar.for_ t ∧ (Tar.clauses t = Tar.clauses t ∧ (false = true
  → false = true)) ∧ True) ∧ (List.take (List.length (C16X.W x)) (C16X.W x) ++ List.take (1 : Nat) [Cls.name x_2] = C16X.W x_4 ∧ (0 : Nat) = (0 : Nat)) ∧ True) ∧ (decide ((↑(nestX
  (Ex.mk (Ex.op (Cls.pay x_2)) (Ex.n (Cls.pay x_2)) (Ex.d0 (Cls.pay x_2)) (Ex.d1 (Cls.pay x_2)) (Ex.d2 (Cls.pay x_2)) (Ex.d3 (Cls.pay x_2)) (Ex.l (Cls.pay x_2)))) : Int) > (24 :
  Int)) = false → ∃ (x_4 : C16X), R x_4 ∧ x_4.2 + (1 : Nat) ≤ x.2 ∧ true = true ∧ ((0 : Nat) = (0 : Nat) ∧ ((0 : Nat) = (0 : Nat) ∧ List.length (C16X.W x) + List.length (List.take (1
  : Nat) [Cls.name x_2]) = List.length (C16X.W x_4) ∧ True) ∧ false = C16X.d x_4 ∧ wr IntKind.i64 ((↑(C16X.k x) : Int) + (1 : Int)) = (↑(C16X.k x_4) : Int) ∧ True) ∧ (Tar.name t =
  Tar.name t ∧ Tar.for_ t = Tar.for_ t ∧ (Tar.clauses t = Tar.clauses t ∧ (false = true → false = true)) ∧ True) ∧ (List.take (List.length (C16X.W x)) (C16X.W x) ++ List.take (1 :
  Nat) [Cls.name x_2] = C16X.W x_4 ∧ (0 : Nat) = (0 : Nat)) ∧ True)))))) ∧ (decide ((↑(C16X.k x) : Int) < (↑(List.length (Tar.clauses t)) : Int)) = false → (C16X.d x = true → (2 :
  Int) = v) ∧ (C16X.d x = false → (0 : Int) = v))) ∧ (decide ((↑(List.length (Tar.clauses t)) : Int) > (64 : Int)) = false → ∃ (R : C16X → Prop), (∃ (x : C16X), R x ∧ true = true ∧
  ((0 : Nat) = (0 : Nat) ∧ ((0 : Nat) = (0 : Nat) ∧ (40 : Nat) = List.length (C16X.W x) ∧ True) ∧ false = C16X.d x ∧ (0 : Int) = (↑(C16X.k x) : Int) ∧ True) ∧ (Tar.name t = Tar.name
  t ∧ Tar.for_ t = Tar.for_ t ∧ (Tar.clauses t = Tar.clauses t ∧ (false = true → false = true)) ∧ True) ∧ ([toL (ByteArray.mk #[(116 : UInt8), (97 : UInt8), (114 : UInt8), (105 :
  UInt8), (102 : UInt8), (102 : UInt8)]), toL (ByteArray.mk #[(102 : UInt8), (111 : UInt8), (114 : UInt8)]), toL (ByteArray.mk #[(99 : UInt8), (108 : UInt8), (97 : UInt8), (117 :
  UInt8), (115 : UInt8), (101 : UInt8)]), toL (ByteArray.mk #[(119 : UInt8), (104 : UInt8), (101 : UInt8), (110 : UInt8)]), toL (ByteArray.mk #[(97 : UInt8), (110 : UInt8), (100 :
  UInt8)]), toL (ByteArray.mk #[(105 : UInt8), (110 : UInt8)]), toL (ByteArray.mk #[(105 : UInt8), (115 : UInt8)]), toL (ByteArray.mk #[(112 : UInt8), (97 : UInt8), (121 : UInt8)]),
  toL (ByteArray.mk #[(109 : UInt8), (105 : UInt8), (110 : UInt8)]), toL (ByteArray.mk #[(109 : UInt8), (97 : UInt8), (120 : UInt8)]), toL (ByteArray.mk #[(100 : UInt8), (111 :
  UInt8), (119 : UInt8), (110 : UInt8)]), toL (ByteArray.mk #[(117 : UInt8), (112 : UInt8)]), toL (ByteArray.mk #[(104 : UInt8), (97 : UInt8), (108 : UInt8), (102 : UInt8)]), toL
  (ByteArray.mk #[(105 : UInt8), (102 : UInt8)]), toL (ByteArray.mk #[(109 : UInt8), (111 : UInt8), (110 : UInt8), (101 : UInt8), (121 : UInt8)]), toL (ByteArray.mk #[(109 : UInt8),
  (105 : UInt8), (110 : UInt8), (117 : UInt8), (116 : UInt8), (101 : UInt8)]), toL (ByteArray.mk #[(112 : UInt8), (101 : UInt8), (114 : UInt8)]), toL (ByteArray.mk #[(107 : UInt8),
  (103 : UInt8)]), toL (ByteArray.mk #[(116 : UInt8), (121 : UInt8), (112 : UInt8), (101 : UInt8)]), toL (ByteArray.mk #[(111 : UInt8), (119 : UInt8), (110 : UInt8), (101 : UInt8),
  (114 : UInt8)]), toL (ByteArray.mk #[(114 : UInt8), (97 : UInt8), (105 : UInt8), (108 : UInt8), (119 : UInt8), (97 : UInt8), (121 : UInt8)]), toL (ByteArray.mk #[(115 : UInt8),
  (104 : UInt8), (105 : UInt8), (112 : UInt8), (112 : UInt8), (101 : UInt8), (114 : UInt8)]), toL (ByteArray.mk #[(99 : UInt8), (108 : UInt8), (97 : UInt8), (115 : UInt8), (115 :
  UInt8)]), toL (ByteArray.mk #[(119 : UInt8), (101 : UInt8), (105 : UInt8), (103 : UInt8), (104 : UInt8), (116 : UInt8)]), toL (ByteArray.mk #[(107 : UInt8), (109 : UInt8)]), toL
  (ByteArray.mk #[(109 : UInt8), (105 : UInt8), (110 : UInt8), (117 : UInt8), (116 : UInt8), (101 : UInt8), (115 : UInt8)]), toL (ByteArray.mk #[(119 : UInt8), (111 : UInt8), (114 :
  UInt8), (107 : UInt8), (105 : UInt8), (110 : UInt8), (103 : UInt8)]), toL (ByteArray.mk #[(99 : UInt8), (111 : UInt8), (100 : UInt8), (101 : UInt8)]), toL (ByteArray.mk #[(119 :
  UInt8), (111 : UInt8), (114 : UInt8), (116 : UInt8), (104 : UInt8)]), toL (ByteArray.mk #[(99 : UInt8), (111 : UInt8), (115 : UInt8), (116 : UInt8)]), toL (ByteArray.mk #[(109 :
  UInt8), (111 : UInt8), (110 : UInt8), (116 : UInt8), (104 : UInt8)]), toL (ByteArray.mk #[(98 : UInt8), (101 : UInt8), (103 : UInt8), (105 : UInt8), (110 : UInt8)]), toL
  (ByteArray.mk #[(112 : UInt8), (97 : UInt8), (114 : UInt8), (116 : UInt8), (115 : UInt8)]), toL (ByteArray.mk #[(112 : UInt8), (97 : UInt8), (114 : UInt8), (116 : UInt8)]), toL
  (ByteArray.mk #[(104 : UInt8), (105 : UInt8), (114 : UInt8), (101 : UInt8)]), toL (ByteArray.mk #[(100 : UInt8), (101 : UInt8), (109 : UInt8), (117 : UInt8), (114 : UInt8), (114 :
  UInt8), (97 : UInt8), (103 : UInt8), (101 : UInt8)]), toL (ByteArray.mk #[(102 : UInt8), (114 : UInt8), (101 : UInt8), (105 : UInt8), (103 : UInt8), (104 : UInt8), (116 : UInt8)]),
  toL (ByteArray.mk #[(114 : UInt8), (101 : UInt8), (112 : UInt8), (97 : UInt8), (105 : UInt8), (114 : UInt8)]), toL (ByteArray.mk #[(108 : UInt8), (111 : UInt8), (115 : UInt8), (115
  : UInt8)]), toL (ByteArray.mk #[(99 : UInt8), (108 : UInt8), (101 : UInt8), (97 : UInt8), (110 : UInt8), (105 : UInt8), (110 : UInt8), (103 : UInt8)])] = C16X.W x ∧ (0 : Nat) = (0
  : Nat)) ∧ True) ∧ ∀ (x : C16X), R x → (decide ((↑(C16X.k x) : Int) < (↑(List.length (Tar.clauses t)) : Int)) = true → (0 : Int) ≤ (↑(C16X.k x) : Int) ∧ (↑(C16X.k x) : Int) + (1 :
  Int) ≤ (↑(List.length (Tar.clauses t)) : Int) ∧ ∀ (x_2 : Cls), (Tar.clauses t)[Int.toNat (↑(C16X.k x) : Int)]? = some x_2 → ∃ (R_1 : KX → Prop), (∃ (x_3 : KX), R_1 x_3 ∧ true =
  true ∧ (((0 : Nat) = (0 : Nat) ∧ List.length (C16X.W x) = List.length (C16X.W x) ∧ True) ∧ Cls.name x_2 = Cls.name x_2 ∧ (0 : Int) = (↑(KX.k x_3) : Int) ∧ True) ∧ (C16X.W x =
  C16X.W x ∧ (0 : Nat) = (0 : Nat)) ∧ True) ∧ ∀ (x_3 : KX), R_1 x_3 → (decide ((↑(KX.k x_3) : Int) < (↑(List.length (C16X.W x)) : Int)) = true → ((0 : Int) ≤ (↑(KX.k x_3) : Int) ∧
  (↑(KX.k x_3) : Int) + (1 : Int) ≤ (↑(List.length (C16X.W x)) : Int)) ∧ (0 : Nat) + Int.toNat (↑(KX.k x_3) : Int) + (1 : Nat) ≤ List.length (C16X.W x) ∧ ∀ (x_4 : List Nat), (C16X.W
  x)[(0 : Nat) + Int.toNat (↑(KX.k x_3) : Int)]? = some x_4 → ((x_4 == Cls.name x_2) = true → (decide ((↑(KX.k x_3) : Int) ≥ (0 : Int)) = true → (161 : Int) = v) ∧ (decide ((↑(KX.k
  x_3) : Int) ≥ (0 : Int)) = false → (0 : Nat) + (1 : Nat) ≤ (1 : Nat) ∧ (List.take (1 : Nat) [Cls.name x_2] = [] → (C16X.d x = true → ∃ (x_5 : C16X), R x_5 ∧ x_5.2 + (1 : Nat) ≤ x.2
  ∧ true = true ∧ ((0 : Nat) = (0 : Nat) ∧ ((0 : Nat) = (0 : Nat) ∧ List.length (C16X.W x) = List.length (C16X.W x_5) ∧ True) ∧ true = C16X.d x_5 ∧ wr IntKind.i64 ((↑(C16X.k x) :
  Int) + (1 : Int)) = (↑(C16X.k x_5) : Int) ∧ True) ∧ (Tar.name t = Tar.name t ∧ Tar.for_ t = Tar.for_ t ∧ (Tar.clauses t = Tar.clauses t ∧ (false = true → false = true)) ∧ True) ∧
  (C16X.W x = C16X.W x_5 ∧ (0 : Nat) = (0 : Nat)) ∧ True) ∧ (C16X.d x = false → (decide ((↑(List.length (Cls.when_ x_2)) : Int) > (8 : Int)) = true → ∃ (x_5 : C16X), R x_5 ∧ x_5.2 +
  (1 : Nat) ≤ x.2 ∧ true = true ∧ ((0 : Nat) = (0 : Nat) ∧ ((0 : Nat) = (0 : Nat) ∧ List.length (C16X.W x) = List.length (C16X.W x_5) ∧ True) ∧ true = C16X.d x_5 ∧ wr IntKind.i64
  ((↑(C16X.k x) : Int) + (1 : Int)) = (↑(C16X.k x_5) : Int) ∧ True) ∧ (Tar.name t = Tar.name t ∧ Tar.for_ t = Tar.for_ t ∧ (Tar.clauses t = Tar.clauses t ∧ (false = true → false =
  true)) ∧ True) ∧ (C16X.W x = C16X.W x_5 ∧ (0 : Nat) = (0 : Nat)) ∧ True) ∧ (decide ((↑(List.length (Cls.when_ x_2)) : Int) > (8 : Int)) = false → Ex.sz (Ex.mk (Ex.op (Cls.pay x_2))
  (Ex.n (Cls.pay x_2)) (Ex.d0 (Cls.pay x_2)) (Ex.d1 (Cls.pay x_2)) (Ex.d2 (Cls.pay x_2)) (Ex.d3 (Cls.pay x_2)) (Ex.l (Cls.pay x_2))) + (1 : Nat) ≤ (1000000000000 : Nat) ∧ (decide
  ((↑(nestX (Ex.mk (Ex.op (Cls.pay x_2)) (Ex.n (Cls.pay x_2)) (Ex.d0 (Cls.pay x_2)) (Ex.d1 (Cls.pay x_2)) (Ex.d2 (Cls.pay x_2)) (Ex.d3 (Cls.pay x_2)) (Ex.l (Cls.pay x_2)))) : Int) >
  (24 : Int)) = true → ∃ (x_5 : C16X), R x_5 ∧ x_5.2 + (1 : Nat) ≤ x.2 ∧ true = true ∧ ((0 : Nat) = (0 : Nat) ∧ ((0 : Nat) = (0 : Nat) ∧ List.length (C16X.W x) = List.length (C16X.W
  x_5) ∧ True) ∧ true = C16X.d x_5 ∧ wr IntKind.i64 ((↑(C16X.k x) : Int) + (1 : Int)) = (↑(C16X.k x_5) : Int) ∧ True) ∧ (Tar.name t = Tar.name t ∧ Tar.for_ t = Tar.for_ t ∧
  (Tar.clauses t = Tar.clauses t ∧ (false = true → false = true)) ∧ True) ∧ (C16X.W x = C16X.W x_5 ∧ (0 : Nat) = (0 : Nat)) ∧ True) ∧ (decide ((↑(nestX (Ex.mk (Ex.op (Cls.pay x_2))
  (Ex.n (Cls.pay x_2)) (Ex.d0 (Cls.pay x_2)) (Ex.d1 (Cls.pay x_2)) (Ex.d2 (Cls.pay x_2)) (Ex.d3 (Cls.pay x_2)) (Ex.l (Cls.pay x_2)))) : Int) > (24 : Int)) = false → ∃ (x_5 : C16X), R
  x_5 ∧ x_5.2 + (1 : Nat) ≤ x.2 ∧ true = true ∧ ((0 : Nat) = (0 : Nat) ∧ ((0 : Nat) = (0 : Nat) ∧ List.length (C16X.W x) = List.length (C16X.W x_5) ∧ True) ∧ false = C16X.d x_5 ∧ wr
  IntKind.i64 ((↑(C16X.k x) : Int) + (1 : Int)) = (↑(C16X.k x_5) : Int) ∧ True) ∧ (Tar.name t = Tar.name t ∧ Tar.for_ t = Tar.for_ t ∧ (Tar.clauses t = Tar.clauses t ∧ (false = true
  → false = true)) ∧ True) ∧ (C16X.W x = C16X.W x_5 ∧ (0 : Nat) = (0 : Nat)) ∧ True)))) ∧ (List.take (1 : Nat) [Cls.name x_2] ≠ [] → (List.length (C16X.W x) ≤ List.length (C16X.W x)
  ∧ (0 : Nat) ≤ List.length (C16X.W x) ∧ (List.length (C16X.W x) + List.length (List.take (1 : Nat) [Cls.name x_2])) * (16 : Nat) ≤ (140737488355328 : Nat)) ∧ (C16X.d x = true → ∃
  (x_5 : C16X), R x_5 ∧ x_5.2 + (1 : Nat) ≤ x.2 ∧ true = true ∧ ((0 : Nat) = (0 : Nat) ∧ ((0 : Nat) = (0 : Nat) ∧ List.length (C16X.W x) + List.length (List.take (1 : Nat) [Cls.name
  x_2]) = List.length (C16X.W x_5) ∧ True) ∧ true = C16X.d x_5 ∧ wr IntKind.i64 ((↑(C16X.k x) : Int) + (1 : Int)) = (↑(C16X.k x_5) : Int) ∧ True) ∧ (Tar.name t = Tar.name t ∧
  Tar.for_ t = Tar.for_ t ∧ (Tar.clauses t = Tar.clauses t ∧ (false = true → false = true)) ∧ True) ∧ (List.take (List.length (C16X.W x)) (C16X.W x) ++ List.take (1 : Nat) [Cls.name
  x_2] = C16X.W x_5 ∧ (0 : Nat) = (0 : Nat)) ∧ True) ∧ (C16X.d x = false → (decide ((↑(List.length (Cls.when_ x_2)) : Int) > (8 : Int)) = true → ∃ (x_5 : C16X), R x_5 ∧ x_5.2 + (1 :
  Nat) ≤ x.2 ∧ true = true ∧ ((0 : Nat) = (0 : Nat) ∧ ((0 : Nat) = (0 : Nat) ∧ List.length (C16X.W x) + List.length (List.take (1 : Nat) [Cls.name x_2]) = List.length (C16X.W x_5) ∧
  True) ∧ true = C16X.d x_5 ∧ wr IntKind.i64 ((↑(C16X.k x) : Int) + (1 : Int)) = (↑(C16X.k x_5) : Int) ∧ True) ∧ (Tar.name t = Tar.name t ∧ Tar.for_ t = Tar.for_ t ∧ (Tar.clauses t =
  Tar.clauses t ∧ (false = true → false = true)) ∧ True) ∧ (List.take (List.length (C16X.W x)) (C16X.W x) ++ List.take (1 : Nat) [Cls.name x_2] = C16X.W x_5 ∧ (0 : Nat) = (0 : Nat))
  ∧ True) ∧ (decide ((↑(List.length (Cls.when_ x_2)) : Int) > (8 : Int)) = false → Ex.sz (Ex.mk (Ex.op (Cls.pay x_2)) (Ex.n (Cls.pay x_2)) (Ex.d0 (Cls.pay x_2)) (Ex.d1 (Cls.pay x_2))
  (Ex.d2 (Cls.pay x_2)) (Ex.d3 (Cls.pay x_2)) (Ex.l (Cls.pay x_2))) + (1 : Nat) ≤ (1000000000000 : Nat) ∧ (decide ((↑(nestX (Ex.mk (Ex.op (Cls.pay x_2)) (Ex.n (Cls.pay x_2)) (Ex.d0
  (Cls.pay x_2)) (Ex.d1 (Cls.pay x_2)) (Ex.d2 (Cls.pay x_2)) (Ex.d3 (Cls.pay x_2)) (Ex.l (Cls.pay x_2)))) : Int) > (24 : Int)) = true → ∃ (x_5 : C16X), R x_5 ∧ x_5.2 + (1 : Nat) ≤
  x.2 ∧ true = true ∧ ((0 : Nat) = (0 : Nat) ∧ ((0 : Nat) = (0 : Nat) ∧ List.length (C16X.W x) + List.length (List.take (1 : Nat) [Cls.name x_2]) = List.length (C16X.W x_5) ∧ True) ∧
  true = C16X.d x_5 ∧ wr IntKind.i64 ((↑(C16X.k x) : Int) + (1 : Int)) = (↑(C16X.k x_5) : Int) ∧ True) ∧ (Tar.name t = Tar.name t ∧ Tar.for_ t = Tar.for_ t ∧ (Tar.clauses t =
  Tar.clauses t ∧ (false = true → false = true)) ∧ True) ∧ (List.take (List.length (C16X.W x)) (C16X.W x) ++ List.take (1 : Nat) [Cls.name x_2] = C16X.W x_5 ∧ (0 : Nat) = (0 : Nat))
  ∧ True) ∧ (decide ((↑(nestX (Ex.mk (Ex.op (Cls.pay x_2)) (Ex.n (Cls.pay x_2)) (Ex.d0 (Cls.pay x_2)) (Ex.d1 (Cls.pay x_2)) (Ex.d2 (Cls.pay x_2)) (Ex.d3 (Cls.pay x_2)) (Ex.l (Cls.pay
  x_2)))) : Int) > (24 : Int)) = false → ∃ (x_5 : C16X), R x_5 ∧ x_5.2 + (1 : Nat) ≤ x.2 ∧ true = true ∧ ((0 : Nat) = (0 : Nat) ∧ ((0 : Nat) = (0 : Nat) ∧ List.length (C16X.W x) +
  List.length (List.take (1 : Nat) [Cls.name x_2]) = List.length (C16X.W x_5) ∧ True) ∧ false = C16X.d x_5 ∧ wr IntKind.i64 ((↑(C16X.k x) : Int) + (1 : Int)) = (↑(C16X.k x_5) : Int)
  ∧ True) ∧ (Tar.name t = Tar.name t ∧ Tar.for_ t = Tar.for_ t ∧ (Tar.clauses t = Tar.clauses t ∧ (false = true → false = true)) ∧ True) ∧ (List.take (List.length (C16X.W x)) (C16X.W
  x) ++ List.take (1 : Nat) [Cls.name x_2] = C16X.W x_5 ∧ (0 : Nat) = (0 : Nat)) ∧ True)))))) ∧ ((x_4 == Cls.name x_2) = false → ∃ (x_5 : KX), R_1 x_5 ∧ x_5.2 + (1 : Nat) ≤ x_3.2 ∧
  true = true ∧ (((0 : Nat) = (0 : Nat) ∧ List.length (C16X.W x) = List.length (C16X.W x) ∧ True) ∧ Cls.name x_2 = Cls.name x_2 ∧ wr IntKind.i64 ((↑(KX.k x_3) : Int) + (1 : Int)) =
  (↑(KX.k x_5) : Int) ∧ True) ∧ (C16X.W x = C16X.W x ∧ (0 : Nat) = (0 : Nat)) ∧ True)) ∧ (decide ((↑(KX.k x_3) : Int) < (↑(List.length (C16X.W x)) : Int)) = false → (0 : Nat) + (1 :
  Nat) ≤ (1 : Nat) ∧ (List.take (1 : Nat) [Cls.name x_2] = [] → (C16X.d x = true → ∃ (x_4 : C16X), R x_4 ∧ x_4.2 + (1 : Nat) ≤ x.2 ∧ true = true ∧ ((0 : Nat) = (0 : Nat) ∧ ((0 : Nat)
  = (0 : Nat) ∧ List.length (C16X.W x) = List.length (C16X.W x_4) ∧ True) ∧ true = C16X.d x_4 ∧ wr IntKind.i64 ((↑(C16X.k x) : Int) + (1 : Int)) = (↑(C16X.k x_4) : Int) ∧ True) ∧
  (Tar.name t = Tar.name t ∧ Tar.for_ t = Tar.for_ t ∧ (Tar.clauses t = Tar.clauses t ∧ (false = true → false = true)) ∧ True) ∧ (C16X.W x = C16X.W x_4 ∧ (0 : Nat) = (0 : Nat)) ∧
  True) ∧ (C16X.d x = false → (decide ((↑(List.length (Cls.when_ x_2)) : Int) > (8 : Int)) = true → ∃ (x_4 : C16X), R x_4 ∧ x_4.2 + (1 : Nat) ≤ x.2 ∧ true = true ∧ ((0 : Nat) = (0 :
  Nat) ∧ ((0 : Nat) = (0 : Nat) ∧ List.length (C16X.W x) = List.length (C16X.W x_4) ∧ True) ∧ true = C16X.d x_4 ∧ wr IntKind.i64 ((↑(C16X.k x) : Int) + (1 : Int)) = (↑(C16X.k x_4) :
  Int) ∧ True) ∧ (Tar.name t = Tar.name t ∧ Tar.for_ t = Tar.for_ t ∧ (Tar.clauses t = Tar.clauses t ∧ (false = true → false = true)) ∧ True) ∧ (C16X.W x = C16X.W x_4 ∧ (0 : Nat) =
  (0 : Nat)) ∧ True) ∧ (decide ((↑(List.length (Cls.when_ x_2)) : Int) > (8 : Int)) = false → Ex.sz (Ex.mk (Ex.op (Cls.pay x_2)) (Ex.n (Cls.pay x_2)) (Ex.d0 (Cls.pay x_2)) (Ex.d1
  (Cls.pay x_2)) (Ex.d2 (Cls.pay x_2)) (Ex.d3 (Cls.pay x_2)) (Ex.l (Cls.pay x_2))) + (1 : Nat) ≤ (1000000000000 : Nat) ∧ (decide ((↑(nestX (Ex.mk (Ex.op (Cls.pay x_2)) (Ex.n (Cls.pay
  x_2)) (Ex.d0 (Cls.pay x_2)) (Ex.d1 (Cls.pay x_2)) (Ex.d2 (Cls.pay x_2)) (Ex.d3 (Cls.pay x_2)) (Ex.l (Cls.pay x_2)))) : Int) > (24 : Int)) = true → ∃ (x_4 : C16X), R x_4 ∧ x_4.2 +
  (1 : Nat) ≤ x.2 ∧ true = true ∧ ((0 : Nat) = (0 : Nat) ∧ ((0 : Nat) = (0 : Nat) ∧ List.length (C16X.W x) = List.length (C16X.W x_4) ∧ True) ∧ true = C16X.d x_4 ∧ wr IntKind.i64
  ((↑(C16X.k x) : Int) + (1 : Int)) = (↑(C16X.k x_4) : Int) ∧ True) ∧ (Tar.name t = Tar.name t ∧ Tar.for_ t = Tar.for_ t ∧ (Tar.clauses t = Tar.clauses t ∧ (false = true → false =
  true)) ∧ True) ∧ (C16X.W x = C16X.W x_4 ∧ (0 : Nat) = (0 : Nat)) ∧ True) ∧ (decide ((↑(nestX (Ex.mk (Ex.op (Cls.pay x_2)) (Ex.n (Cls.pay x_2)) (Ex.d0 (Cls.pay x_2)) (Ex.d1 (Cls.pay
  x_2)) (Ex.d2 (Cls.pay x_2)) (Ex.d3 (Cls.pay x_2)) (Ex.l (Cls.pay x_2)))) : Int) > (24 : Int)) = false → ∃ (x_4 : C16X), R x_4 ∧ x_4.2 + (1 : Nat) ≤ x.2 ∧ true = true ∧ ((0 : Nat) =
  (0 : Nat) ∧ ((0 : Nat) = (0 : Nat) ∧ List.length (C16X.W x) = List.length (C16X.W x_4) ∧ True) ∧ false = C16X.d x_4 ∧ wr IntKind.i64 ((↑(C16X.k x) : Int) + (1 : Int)) = (↑(C16X.k
  x_4) : Int) ∧ True) ∧ (Tar.name t = Tar.name t ∧ Tar.for_ t = Tar.for_ t ∧ (Tar.clauses t = Tar.clauses t ∧ (false = true → false = true)) ∧ True) ∧ (C16X.W x = C16X.W x_4 ∧ (0 :
  Nat) = (0 : Nat)) ∧ True)))) ∧ (List.take (1 : Nat) [Cls.name x_2] ≠ [] → (List.length (C16X.W x) ≤ List.length (C16X.W x) ∧ (0 : Nat) ≤ List.length (C16X.W x) ∧ (List.length
  (C16X.W x) + List.length (List.take (1 : Nat) [Cls.name x_2])) * (16 : Nat) ≤ (140737488355328 : Nat)) ∧ (C16X.d x = true → ∃ (x_4 : C16X), R x_4 ∧ x_4.2 + (1 : Nat) ≤ x.2 ∧ true =
  true ∧ ((0 : Nat) = (0 : Nat) ∧ ((0 : Nat) = (0 : Nat) ∧ List.length (C16X.W x) + List.length (List.take (1 : Nat) [Cls.name x_2]) = List.length (C16X.W x_4) ∧ True) ∧ true =
  C16X.d x_4 ∧ wr IntKind.i64 ((↑(C16X.k x) : Int) + (1 : Int)) = (↑(C16X.k x_4) : Int) ∧ True) ∧ (Tar.name t = Tar.name t ∧ Tar.for_ t = Tar.for_ t ∧ (Tar.clauses t = Tar.clauses t
  ∧ (false = true → false = true)) ∧ True) ∧ (List.take (List.length (C16X.W x)) (C16X.W x) ++ List.take (1 : Nat) [Cls.name x_2] = C16X.W x_4 ∧ (0 : Nat) = (0 : Nat)) ∧ True) ∧
  (C16X.d x = false → (decide ((↑(List.length (Cls.when_ x_2)) : Int) > (8 : Int)) = true → ∃ (x_4 : C16X), R x_4 ∧ x_4.2 + (1 : Nat) ≤ x.2 ∧ true = true ∧ ((0 : Nat) = (0 : Nat) ∧
  ((0 : Nat) = (0 : Nat) ∧ List.length (C16X.W x) + List.length (List.take (1 : Nat) [Cls.name x_2]) = List.length (C16X.W x_4) ∧ True) ∧ true = C16X.d x_4 ∧ wr IntKind.i64
  ((↑(C16X.k x) : Int) + (1 : Int)) = (↑(C16X.k x_4) : Int) ∧ True) ∧ (Tar.name t = Tar.name t ∧ Tar.for_ t = Tar.for_ t ∧ (Tar.clauses t = Tar.clauses t ∧ (false = true → false =
  true)) ∧ True) ∧ (List.take (List.length (C16X.W x)) (C16X.W x) ++ List.take (1 : Nat) [Cls.name x_2] = C16X.W x_4 ∧ (0 : Nat) = (0 : Nat)) ∧ True) ∧ (decide ((↑(List.length
  (Cls.when_ x_2)) : Int) > (8 : Int)) = false → Ex.sz (Ex.mk (Ex.op (Cls.pay x_2)) (Ex.n (Cls.pay x_2)) (Ex.d0 (Cls.pay x_2)) (Ex.d1 (Cls.pay x_2)) (Ex.d2 (Cls.pay x_2)) (Ex.d3
  (Cls.pay x_2)) (Ex.l (Cls.pay x_2))) + (1 : Nat) ≤ (1000000000000 : Nat) ∧ (decide ((↑(nestX (Ex.mk (Ex.op (Cls.pay x_2)) (Ex.n (Cls.pay x_2)) (Ex.d0 (Cls.pay x_2)) (Ex.d1 (Cls.pay
  x_2)) (Ex.d2 (Cls.pay x_2)) (Ex.d3 (Cls.pay x_2)) (Ex.l (Cls.pay x_2)))) : Int) > (24 : Int)) = true → ∃ (x_4 : C16X), R x_4 ∧ x_4.2 + (1 : Nat) ≤ x.2 ∧ true = true ∧ ((0 : Nat) =
  (0 : Nat) ∧ ((0 : Nat) = (0 : Nat) ∧ List.length (C16X.W x) + List.length (List.take (1 : Nat) [Cls.name x_2]) = List.length (C16X.W x_4) ∧ True) ∧ true = C16X.d x_4 ∧ wr
  IntKind.i64 ((↑(C16X.k x) : Int) + (1 : Int)) = (↑(C16X.k x_4) : Int) ∧ True) ∧ (Tar.name t = Tar.name t ∧ Tar.for_ t = Tar.for_ t ∧ (Tar.clauses t = Tar.clauses t ∧ (false = true
  → false = true)) ∧ True) ∧ (List.take (List.length (C16X.W x)) (C16X.W x) ++ List.take (1 : Nat) [Cls.name x_2] = C16X.W x_4 ∧ (0 : Nat) = (0 : Nat)) ∧ True) ∧ (decide ((↑(nestX
  (Ex.mk (Ex.op (Cls.pay x_2)) (Ex.n (Cls.pay x_2)) (Ex.d0 (Cls.pay x_2)) (Ex.d1 (Cls.pay x_2)) (Ex.d2 (Cls.pay x_2)) (Ex.d3 (Cls.pay x_2)) (Ex.l (Cls.pay x_2)))) : Int) > (24 :
  Int)) = false → ∃ (x_4 : C16X), R x_4 ∧ x_4.2 + (1 : Nat) ≤ x.2 ∧ true = true ∧ ((0 : Nat) = (0 : Nat) ∧ ((0 : Nat) = (0 : Nat) ∧ List.length (C16X.W x) + List.length (List.take (1
  : Nat) [Cls.name x_2]) = List.length (C16X.W x_4) ∧ True) ∧ false = C16X.d x_4 ∧ wr IntKind.i64 ((↑(C16X.k x) : Int) + (1 : Int)) = (↑(C16X.k x_4) : Int) ∧ True) ∧ (Tar.name t =
  Tar.name t ∧ Tar.for_ t = Tar.for_ t ∧ (Tar.clauses t = Tar.clauses t ∧ (false = true → false = true)) ∧ True) ∧ (List.take (List.length (C16X.W x)) (C16X.W x) ++ List.take (1 :
  Nat) [Cls.name x_2] = C16X.W x_4 ∧ (0 : Nat) = (0 : Nat)) ∧ True)))))) ∧ (decide ((↑(C16X.k x) : Int) < (↑(List.length (Tar.clauses t)) : Int)) = false → (C16X.d x = true → (2 :
  Int) = v) ∧ (C16X.d x = false → (0 : Int) = v))))) ∧ ((x_1 == Tar.name t) = false → ∃ (x_2 : KX), R x_2 ∧ x_2.2 + (1 : Nat) ≤ x.2 ∧ true = true ∧ (((0 : Nat) = (0 : Nat) ∧ (40 :
  Nat) = (40 : Nat) ∧ (40 : Nat) = (40 : Nat)) ∧ Tar.name t = Tar.name t ∧ wr IntKind.i64 ((↑(KX.k x) : Int) + (1 : Int)) = (↑(KX.k x_2) : Int) ∧ True) ∧ ([toL (ByteArray.mk #[(116 :
  UInt8), (97 : UInt8), (114 : UInt8), (105 : UInt8), (102 : UInt8), (102 : UInt8)]), toL (ByteArray.mk #[(102 : UInt8), (111 : UInt8), (114 : UInt8)]), toL (ByteArray.mk #[(99 :
  UInt8), (108 : UInt8), (97 : UInt8), (117 : UInt8), (115 : UInt8), (101 : UInt8)]), toL (ByteArray.mk #[(119 : UInt8), (104 : UInt8), (101 : UInt8), (110 : UInt8)]), toL
  (ByteArray.mk #[(97 : UInt8), (110 : UInt8), (100 : UInt8)]), toL (ByteArray.mk #[(105 : UInt8), (110 : UInt8)]), toL (ByteArray.mk #[(105 : UInt8), (115 : UInt8)]), toL
  (ByteArray.mk #[(112 : UInt8), (97 : UInt8), (121 : UInt8)]), toL (ByteArray.mk #[(109 : UInt8), (105 : UInt8), (110 : UInt8)]), toL (ByteArray.mk #[(109 : UInt8), (97 : UInt8),
  (120 : UInt8)]), toL (ByteArray.mk #[(100 : UInt8), (111 : UInt8), (119 : UInt8), (110 : UInt8)]), toL (ByteArray.mk #[(117 : UInt8), (112 : UInt8)]), toL (ByteArray.mk #[(104 :
  UInt8), (97 : UInt8), (108 : UInt8), (102 : UInt8)]), toL (ByteArray.mk #[(105 : UInt8), (102 : UInt8)]), toL (ByteArray.mk #[(109 : UInt8), (111 : UInt8), (110 : UInt8), (101 :
  UInt8), (121 : UInt8)]), toL (ByteArray.mk #[(109 : UInt8), (105 : UInt8), (110 : UInt8), (117 : UInt8), (116 : UInt8), (101 : UInt8)]), toL (ByteArray.mk #[(112 : UInt8), (101 :
  UInt8), (114 : UInt8)]), toL (ByteArray.mk #[(107 : UInt8), (103 : UInt8)]), toL (ByteArray.mk #[(116 : UInt8), (121 : UInt8), (112 : UInt8), (101 : UInt8)]), toL (ByteArray.mk
  #[(111 : UInt8), (119 : UInt8), (110 : UInt8), (101 : UInt8), (114 : UInt8)]), toL (ByteArray.mk #[(114 : UInt8), (97 : UInt8), (105 : UInt8), (108 : UInt8), (119 : UInt8), (97 :
  UInt8), (121 : UInt8)]), toL (ByteArray.mk #[(115 : UInt8), (104 : UInt8), (105 : UInt8), (112 : UInt8), (112 : UInt8), (101 : UInt8), (114 : UInt8)]), toL (ByteArray.mk #[(99 :
  UInt8), (108 : UInt8), (97 : UInt8), (115 : UInt8), (115 : UInt8)]), toL (ByteArray.mk #[(119 : UInt8), (101 : UInt8), (105 : UInt8), (103 : UInt8), (104 : UInt8), (116 : UInt8)]),
  toL (ByteArray.mk #[(107 : UInt8), (109 : UInt8)]), toL (ByteArray.mk #[(109 : UInt8), (105 : UInt8), (110 : UInt8), (117 : UInt8), (116 : UInt8), (101 : UInt8), (115 : UInt8)]),
  toL (ByteArray.mk #[(119 : UInt8), (111 : UInt8), (114 : UInt8), (107 : UInt8), (105 : UInt8), (110 : UInt8), (103 : UInt8)]), toL (ByteArray.mk #[(99 : UInt8), (111 : UInt8), (100
  : UInt8), (101 : UInt8)]), toL (ByteArray.mk #[(119 : UInt8), (111 : UInt8), (114 : UInt8), (116 : UInt8), (104 : UInt8)]), toL (ByteArray.mk #[(99 : UInt8), (111 : UInt8), (115 :
  UInt8), (116 : UInt8)]), toL (ByteArray.mk #[(109 : UInt8), (111 : UInt8), (110 : UInt8), (116 : UInt8), (104 : UInt8)]), toL (ByteArray.mk #[(98 : UInt8), (101 : UInt8), (103 :
  UInt8), (105 : UInt8), (110 : UInt8)]), toL (ByteArray.mk #[(112 : UInt8), (97 : UInt8), (114 : UInt8), (116 : UInt8), (115 : UInt8)]), toL (ByteArray.mk #[(112 : UInt8), (97 :
  UInt8), (114 : UInt8), (116 : UInt8)]), toL (ByteArray.mk #[(104 : UInt8), (105 : UInt8), (114 : UInt8), (101 : UInt8)]), toL (ByteArray.mk #[(100 : UInt8), (101 : UInt8), (109 :
  UInt8), (117 : UInt8), (114 : UInt8), (114 : UInt8), (97 : UInt8), (103 : UInt8), (101 : UInt8)]), toL (ByteArray.mk #[(102 : UInt8), (114 : UInt8), (101 : UInt8), (105 : UInt8),
  (103 : UInt8), (104 : UInt8), (116 : UInt8)]), toL (ByteArray.mk #[(114 : UInt8), (101 : UInt8), (112 : UInt8), (97 : UInt8), (105 : UInt8), (114 : UInt8)]), toL (ByteArray.mk
  #[(108 : UInt8), (111 : UInt8), (115 : UInt8), (115 : UInt8)]), toL (ByteArray.mk #[(99 : UInt8), (108 : UInt8), (101 : UInt8), (97 : UInt8), (110 : UInt8), (105 : UInt8), (110 :
  UInt8), (103 : UInt8)])] = [toL (ByteArray.mk #[(116 : UInt8), (97 : UInt8), (114 : UInt8), (105 : UInt8), (102 : UInt8), (102 : UInt8)]), toL (ByteArray.mk #[(102 : UInt8), (111 :
  UInt8), (114 : UInt8)]), toL (ByteArray.mk #[(99 : UInt8), (108 : UInt8), (97 : UInt8), (117 : UInt8), (115 : UInt8), (101 : UInt8)]), toL (ByteArray.mk #[(119 : UInt8), (104 :
  UInt8), (101 : UInt8), (110 : UInt8)]), toL (ByteArray.mk #[(97 : UInt8), (110 : UInt8), (100 : UInt8)]), toL (ByteArray.mk #[(105 : UInt8), (110 : UInt8)]), toL (ByteArray.mk
  #[(105 : UInt8), (115 : UInt8)]), toL (ByteArray.mk #[(112 : UInt8), (97 : UInt8), (121 : UInt8)]), toL (ByteArray.mk #[(109 : UInt8), (105 : UInt8), (110 : UInt8)]), toL
  (ByteArray.mk #[(109 : UInt8), (97 : UInt8), (120 : UInt8)]), toL (ByteArray.mk #[(100 : UInt8), (111 : UInt8), (119 : UInt8), (110 : UInt8)]), toL (ByteArray.mk #[(117 : UInt8),
  (112 : UInt8)]), toL (ByteArray.mk #[(104 : UInt8), (97 : UInt8), (108 : UInt8), (102 : UInt8)]), toL (ByteArray.mk #[(105 : UInt8), (102 : UInt8)]), toL (ByteArray.mk #[(109 :
  UInt8), (111 : UInt8), (110 : UInt8), (101 : UInt8), (121 : UInt8)]), toL (ByteArray.mk #[(109 : UInt8), (105 : UInt8), (110 : UInt8), (117 : UInt8), (116 : UInt8), (101 :
  UInt8)]), toL (ByteArray.mk #[(112 : UInt8), (101 : UInt8), (114 : UInt8)]), toL (ByteArray.mk #[(107 : UInt8), (103 : UInt8)]), toL (ByteArray.mk #[(116 : UInt8), (121 : UInt8),
  (112 : UInt8), (101 : UInt8)]), toL (ByteArray.mk #[(111 : UInt8), (119 : UInt8), (110 : UInt8), (101 : UInt8), (114 : UInt8)]), toL (ByteArray.mk #[(114 : UInt8), (97 : UInt8),
  (105 : UInt8), (108 : UInt8), (119 : UInt8), (97 : UInt8), (121 : UInt8)]), toL (ByteArray.mk #[(115 : UInt8), (104 : UInt8), (105 : UInt8), (112 : UInt8), (112 : UInt8), (101 :
  UInt8), (114 : UInt8)]), toL (ByteArray.mk #[(99 : UInt8), (108 : UInt8), (97 : UInt8), (115 : UInt8), (115 : UInt8)]), toL (ByteArray.mk #[(119 : UInt8), (101 : UInt8), (105 :
  UInt8), (103 : UInt8), (104 : UInt8), (116 : UInt8)]), toL (ByteArray.mk #[(107 : UInt8), (109 : UInt8)]), toL (ByteArray.mk #[(109 : UInt8), (105 : UInt8), (110 : UInt8), (117 :
  UInt8), (116 : UInt8), (101 : UInt8), (115 : UInt8)]), toL (ByteArray.mk #[(119 : UInt8), (111 : UInt8), (114 : UInt8), (107 : UInt8), (105 : UInt8), (110 : UInt8), (103 :
  UInt8)]), toL (ByteArray.mk #[(99 : UInt8), (111 : UInt8), (100 : UInt8), (101 : UInt8)]), toL (ByteArray.mk #[(119 : UInt8), (111 : UInt8), (114 : UInt8), (116 : UInt8), (104 :
  UInt8)]), toL (ByteArray.mk #[(99 : UInt8), (111 : UInt8), (115 : UInt8), (116 : UInt8)]), toL (ByteArray.mk #[(109 : UInt8), (111 : UInt8), (110 : UInt8), (116 : UInt8), (104 :
  UInt8)]), toL (ByteArray.mk #[(98 : UInt8), (101 : UInt8), (103 : UInt8), (105 : UInt8), (110 : UInt8)]), toL (ByteArray.mk #[(112 : UInt8), (97 : UInt8), (114 : UInt8), (116 :
  UInt8), (115 : UInt8)]), toL (ByteArray.mk #[(112 : UInt8), (97 : UInt8), (114 : UInt8), (116 : UInt8)]), toL (ByteArray.mk #[(104 : UInt8), (105 : UInt8), (114 : UInt8), (101 :
  UInt8)]), toL (ByteArray.mk #[(100 : UInt8), (101 : UInt8), (109 : UInt8), (117 : UInt8), (114 : UInt8), (114 : UInt8), (97 : UInt8), (103 : UInt8), (101 : UInt8)]), toL
  (ByteArray.mk #[(102 : UInt8), (114 : UInt8), (101 : UInt8), (105 : UInt8), (103 : UInt8), (104 : UInt8), (116 : UInt8)]), toL (ByteArray.mk #[(114 : UInt8), (101 : UInt8), (112 :
  UInt8), (97 : UInt8), (105 : UInt8), (114 : UInt8)]), toL (ByteArray.mk #[(108 : UInt8), (111 : UInt8), (115 : UInt8), (115 : UInt8)]), toL (ByteArray.mk #[(99 : UInt8), (108 :
  UInt8), (101 : UInt8), (97 : UInt8), (110 : UInt8), (105 : UInt8), (110 : UInt8), (103 : UInt8)])] ∧ (0 : Nat) = (0 : Nat)) ∧ True)) ∧ (decide ((↑(KX.k x) : Int) < (↑(40 : Nat) :
  Int)) = false → (decide ((↑(List.length (Tar.clauses t)) : Int) > (64 : Int)) = true → ∃ (R : C16X → Prop), (∃ (x : C16X), R x ∧ true = true ∧ ((0 : Nat) = (0 : Nat) ∧ ((0 : Nat) =
  (0 : Nat) ∧ (40 : Nat) = List.length (C16X.W x) ∧ True) ∧ true = C16X.d x ∧ (0 : Int) = (↑(C16X.k x) : Int) ∧ True) ∧ (Tar.name t = Tar.name t ∧ Tar.for_ t = Tar.for_ t ∧
  (Tar.clauses t = Tar.clauses t ∧ (false = true → false = true)) ∧ True) ∧ ([toL (ByteArray.mk #[(116 : UInt8), (97 : UInt8), (114 : UInt8), (105 : UInt8), (102 : UInt8), (102 :
  UInt8)]), toL (ByteArray.mk #[(102 : UInt8), (111 : UInt8), (114 : UInt8)]), toL (ByteArray.mk #[(99 : UInt8), (108 : UInt8), (97 : UInt8), (117 : UInt8), (115 : UInt8), (101 :
  UInt8)]), toL (ByteArray.mk #[(119 : UInt8), (104 : UInt8), (101 : UInt8), (110 : UInt8)]), toL (ByteArray.mk #[(97 : UInt8), (110 : UInt8), (100 : UInt8)]), toL (ByteArray.mk
  #[(105 : UInt8), (110 : UInt8)]), toL (ByteArray.mk #[(105 : UInt8), (115 : UInt8)]), toL (ByteArray.mk #[(112 : UInt8), (97 : UInt8), (121 : UInt8)]), toL (ByteArray.mk #[(109 :
  UInt8), (105 : UInt8), (110 : UInt8)]), toL (ByteArray.mk #[(109 : UInt8), (97 : UInt8), (120 : UInt8)]), toL (ByteArray.mk #[(100 : UInt8), (111 : UInt8), (119 : UInt8), (110 :
  UInt8)]), toL (ByteArray.mk #[(117 : UInt8), (112 : UInt8)]), toL (ByteArray.mk #[(104 : UInt8), (97 : UInt8), (108 : UInt8), (102 : UInt8)]), toL (ByteArray.mk #[(105 : UInt8),
  (102 : UInt8)]), toL (ByteArray.mk #[(109 : UInt8), (111 : UInt8), (110 : UInt8), (101 : UInt8), (121 : UInt8)]), toL (ByteArray.mk #[(109 : UInt8), (105 : UInt8), (110 : UInt8),
  (117 : UInt8), (116 : UInt8), (101 : UInt8)]), toL (ByteArray.mk #[(112 : UInt8), (101 : UInt8), (114 : UInt8)]), toL (ByteArray.mk #[(107 : UInt8), (103 : UInt8)]), toL
  (ByteArray.mk #[(116 : UInt8), (121 : UInt8), (112 : UInt8), (101 : UInt8)]), toL (ByteArray.mk #[(111 : UInt8), (119 : UInt8), (110 : UInt8), (101 : UInt8), (114 : UInt8)]), toL
  (ByteArray.mk #[(114 : UInt8), (97 : UInt8), (105 : UInt8), (108 : UInt8), (119 : UInt8), (97 : UInt8), (121 : UInt8)]), toL (ByteArray.mk #[(115 : UInt8), (104 : UInt8), (105 :
  UInt8), (112 : UInt8), (112 : UInt8), (101 : UInt8), (114 : UInt8)]), toL (ByteArray.mk #[(99 : UInt8), (108 : UInt8), (97 : UInt8), (115 : UInt8), (115 : UInt8)]), toL
  (ByteArray.mk #[(119 : UInt8), (101 : UInt8), (105 : UInt8), (103 : UInt8), (104 : UInt8), (116 : UInt8)]), toL (ByteArray.mk #[(107 : UInt8), (109 : UInt8)]), toL (ByteArray.mk
  #[(109 : UInt8), (105 : UInt8), (110 : UInt8), (117 : UInt8), (116 : UInt8), (101 : UInt8), (115 : UInt8)]), toL (ByteArray.mk #[(119 : UInt8), (111 : UInt8), (114 : UInt8), (107 :
  UInt8), (105 : UInt8), (110 : UInt8), (103 : UInt8)]), toL (ByteArray.mk #[(99 : UInt8), (111 : UInt8), (100 : UInt8), (101 : UInt8)]), toL (ByteArray.mk #[(119 : UInt8), (111 :
  UInt8), (114 : UInt8), (116 : UInt8), (104 : UInt8)]), toL (ByteArray.mk #[(99 : UInt8), (111 : UInt8), (115 : UInt8), (116 : UInt8)]), toL (ByteArray.mk #[(109 : UInt8), (111 :
  UInt8), (110 : UInt8), (116 : UInt8), (104 : UInt8)]), toL (ByteArray.mk #[(98 : UInt8), (101 : UInt8), (103 : UInt8), (105 : UInt8), (110 : UInt8)]), toL (ByteArray.mk #[(112 :
  UInt8), (97 : UInt8), (114 : UInt8), (116 : UInt8), (115 : UInt8)]), toL (ByteArray.mk #[(112 : UInt8), (97 : UInt8), (114 : UInt8), (116 : UInt8)]), toL (ByteArray.mk #[(104 :
  UInt8), (105 : UInt8), (114 : UInt8), (101 : UInt8)]), toL (ByteArray.mk #[(100 : UInt8), (101 : UInt8), (109 : UInt8), (117 : UInt8), (114 : UInt8), (114 : UInt8), (97 : UInt8),
  (103 : UInt8), (101 : UInt8)]), toL (ByteArray.mk #[(102 : UInt8), (114 : UInt8), (101 : UInt8), (105 : UInt8), (103 : UInt8), (104 : UInt8), (116 : UInt8)]), toL (ByteArray.mk
  #[(114 : UInt8), (101 : UInt8), (112 : UInt8), (97 : UInt8), (105 : UInt8), (114 : UInt8)]), toL (ByteArray.mk #[(108 : UInt8), (111 : UInt8), (115 : UInt8), (115 : UInt8)]), toL
  (ByteArray.mk #[(99 : UInt8), (108 : UInt8), (101 : UInt8), (97 : UInt8), (110 : UInt8), (105 : UInt8), (110 : UInt8), (103 : UInt8)])] = C16X.W x ∧ (0 : Nat) = (0 : Nat)) ∧ True)
  ∧ ∀ (x : C16X), R x → (decide ((↑(C16X.k x) : Int) < (↑(List.length (Tar.clauses t)) : Int)) = true → (0 : Int) ≤ (↑(C16X.k x) : Int) ∧ (↑(C16X.k x) : Int) + (1 : Int) ≤
  (↑(List.length (Tar.clauses t)) : Int) ∧ ∀ (x_1 : Cls), (Tar.clauses t)[Int.toNat (↑(C16X.k x) : Int)]? = some x_1 → ∃ (R_1 : KX → Prop), (∃ (x_2 : KX), R_1 x_2 ∧ true = true ∧
  (((0 : Nat) = (0 : Nat) ∧ List.length (C16X.W x) = List.length (C16X.W x) ∧ True) ∧ Cls.name x_1 = Cls.name x_1 ∧ (0 : Int) = (↑(KX.k x_2) : Int) ∧ True) ∧ (C16X.W x = C16X.W x ∧
  (0 : Nat) = (0 : Nat)) ∧ True) ∧ ∀ (x_2 : KX), R_1 x_2 → (decide ((↑(KX.k x_2) : Int) < (↑(List.length (C16X.W x)) : Int)) = true → ((0 : Int) ≤ (↑(KX.k x_2) : Int) ∧ (↑(KX.k x_2)
  : Int) + (1 : Int) ≤ (↑(List.length (C16X.W x)) : Int)) ∧ (0 : Nat) + Int.toNat (↑(KX.k x_2) : Int) + (1 : Nat) ≤ List.length (C16X.W x) ∧ ∀ (x_3 : List Nat), (C16X.W x)[(0 : Nat)
  + Int.toNat (↑(KX.k x_2) : Int)]? = some x_3 → ((x_3 == Cls.name x_1) = true → (decide ((↑(KX.k x_2) : Int) ≥ (0 : Int)) = true → (161 : Int) = v) ∧ (decide ((↑(KX.k x_2) : Int) ≥
  (0 : Int)) = false → (0 : Nat) + (1 : Nat) ≤ (1 : Nat) ∧ (List.take (1 : Nat) [Cls.name x_1] = [] → (C16X.d x = true → ∃ (x_4 : C16X), R x_4 ∧ x_4.2 + (1 : Nat) ≤ x.2 ∧ true = true
  ∧ ((0 : Nat) = (0 : Nat) ∧ ((0 : Nat) = (0 : Nat) ∧ List.length (C16X.W x) = List.length (C16X.W x_4) ∧ True) ∧ true = C16X.d x_4 ∧ wr IntKind.i64 ((↑(C16X.k x) : Int) + (1 : Int))
  = (↑(C16X.k x_4) : Int) ∧ True) ∧ (Tar.name t = Tar.name t ∧ Tar.for_ t = Tar.for_ t ∧ (Tar.clauses t = Tar.clauses t ∧ (false = true → false = true)) ∧ True) ∧ (C16X.W x = C16X.W
  x_4 ∧ (0 : Nat) = (0 : Nat)) ∧ True) ∧ (C16X.d x = false → (decide ((↑(List.length (Cls.when_ x_1)) : Int) > (8 : Int)) = true → ∃ (x_4 : C16X), R x_4 ∧ x_4.2 + (1 : Nat) ≤ x.2 ∧
  true = true ∧ ((0 : Nat) = (0 : Nat) ∧ ((0 : Nat) = (0 : Nat) ∧ List.length (C16X.W x) = List.length (C16X.W x_4) ∧ True) ∧ true = C16X.d x_4 ∧ wr IntKind.i64 ((↑(C16X.k x) : Int)
  + (1 : Int)) = (↑(C16X.k x_4) : Int) ∧ True) ∧ (Tar.name t = Tar.name t ∧ Tar.for_ t = Tar.for_ t ∧ (Tar.clauses t = Tar.clauses t ∧ (false = true → false = true)) ∧ True) ∧
  (C16X.W x = C16X.W x_4 ∧ (0 : Nat) = (0 : Nat)) ∧ True) ∧ (decide ((↑(List.length (Cls.when_ x_1)) : Int) > (8 : Int)) = false → Ex.sz (Ex.mk (Ex.op (Cls.pay x_1)) (Ex.n (Cls.pay
  x_1)) (Ex.d0 (Cls.pay x_1)) (Ex.d1 (Cls.pay x_1)) (Ex.d2 (Cls.pay x_1)) (Ex.d3 (Cls.pay x_1)) (Ex.l (Cls.pay x_1))) + (1 : Nat) ≤ (1000000000000 : Nat) ∧ (decide ((↑(nestX (Ex.mk
  (Ex.op (Cls.pay x_1)) (Ex.n (Cls.pay x_1)) (Ex.d0 (Cls.pay x_1)) (Ex.d1 (Cls.pay x_1)) (Ex.d2 (Cls.pay x_1)) (Ex.d3 (Cls.pay x_1)) (Ex.l (Cls.pay x_1)))) : Int) > (24 : Int)) =
  true → ∃ (x_4 : C16X), R x_4 ∧ x_4.2 + (1 : Nat) ≤ x.2 ∧ true = true ∧ ((0 : Nat) = (0 : Nat) ∧ ((0 : Nat) = (0 : Nat) ∧ List.length (C16X.W x) = List.length (C16X.W x_4) ∧ True) ∧
  true = C16X.d x_4 ∧ wr IntKind.i64 ((↑(C16X.k x) : Int) + (1 : Int)) = (↑(C16X.k x_4) : Int) ∧ True) ∧ (Tar.name t = Tar.name t ∧ Tar.for_ t = Tar.for_ t ∧ (Tar.clauses t =
  Tar.clauses t ∧ (false = true → false = true)) ∧ True) ∧ (C16X.W x = C16X.W x_4 ∧ (0 : Nat) = (0 : Nat)) ∧ True) ∧ (decide ((↑(nestX (Ex.mk (Ex.op (Cls.pay x_1)) (Ex.n (Cls.pay
  x_1)) (Ex.d0 (Cls.pay x_1)) (Ex.d1 (Cls.pay x_1)) (Ex.d2 (Cls.pay x_1)) (Ex.d3 (Cls.pay x_1)) (Ex.l (Cls.pay x_1)))) : Int) > (24 : Int)) = false → ∃ (x_4 : C16X), R x_4 ∧ x_4.2 +
  (1 : Nat) ≤ x.2 ∧ true = true ∧ ((0 : Nat) = (0 : Nat) ∧ ((0 : Nat) = (0 : Nat) ∧ List.length (C16X.W x) = List.length (C16X.W x_4) ∧ True) ∧ false = C16X.d x_4 ∧ wr IntKind.i64
  ((↑(C16X.k x) : Int) + (1 : Int)) = (↑(C16X.k x_4) : Int) ∧ True) ∧ (Tar.name t = Tar.name t ∧ Tar.for_ t = Tar.for_ t ∧ (Tar.clauses t = Tar.clauses t ∧ (false = true → false =
  true)) ∧ True) ∧ (C16X.W x = C16X.W x_4 ∧ (0 : Nat) = (0 : Nat)) ∧ True)))) ∧ (List.take (1 : Nat) [Cls.name x_1] ≠ [] → (List.length (C16X.W x) ≤ List.length (C16X.W x) ∧ (0 :
  Nat) ≤ List.length (C16X.W x) ∧ (List.length (C16X.W x) + List.length (List.take (1 : Nat) [Cls.name x_1])) * (16 : Nat) ≤ (140737488355328 : Nat)) ∧ (C16X.d x = true → ∃ (x_4 :
  C16X), R x_4 ∧ x_4.2 + (1 : Nat) ≤ x.2 ∧ true = true ∧ ((0 : Nat) = (0 : Nat) ∧ ((0 : Nat) = (0 : Nat) ∧ List.length (C16X.W x) + List.length (List.take (1 : Nat) [Cls.name x_1]) =
  List.length (C16X.W x_4) ∧ True) ∧ true = C16X.d x_4 ∧ wr IntKind.i64 ((↑(C16X.k x) : Int) + (1 : Int)) = (↑(C16X.k x_4) : Int) ∧ True) ∧ (Tar.name t = Tar.name t ∧ Tar.for_ t =
  Tar.for_ t ∧ (Tar.clauses t = Tar.clauses t ∧ (false = true → false = true)) ∧ True) ∧ (List.take (List.length (C16X.W x)) (C16X.W x) ++ List.take (1 : Nat) [Cls.name x_1] = C16X.W
  x_4 ∧ (0 : Nat) = (0 : Nat)) ∧ True) ∧ (C16X.d x = false → (decide ((↑(List.length (Cls.when_ x_1)) : Int) > (8 : Int)) = true → ∃ (x_4 : C16X), R x_4 ∧ x_4.2 + (1 : Nat) ≤ x.2 ∧
  true = true ∧ ((0 : Nat) = (0 : Nat) ∧ ((0 : Nat) = (0 : Nat) ∧ List.length (C16X.W x) + List.length (List.take (1 : Nat) [Cls.name x_1]) = List.length (C16X.W x_4) ∧ True) ∧ true
  = C16X.d x_4 ∧ wr IntKind.i64 ((↑(C16X.k x) : Int) + (1 : Int)) = (↑(C16X.k x_4) : Int) ∧ True) ∧ (Tar.name t = Tar.name t ∧ Tar.for_ t = Tar.for_ t ∧ (Tar.clauses t = Tar.clauses
  t ∧ (false = true → false = true)) ∧ True) ∧ (List.take (List.length (C16X.W x)) (C16X.W x) ++ List.take (1 : Nat) [Cls.name x_1] = C16X.W x_4 ∧ (0 : Nat) = (0 : Nat)) ∧ True) ∧
  (decide ((↑(List.length (Cls.when_ x_1)) : Int) > (8 : Int)) = false → Ex.sz (Ex.mk (Ex.op (Cls.pay x_1)) (Ex.n (Cls.pay x_1)) (Ex.d0 (Cls.pay x_1)) (Ex.d1 (Cls.pay x_1)) (Ex.d2
  (Cls.pay x_1)) (Ex.d3 (Cls.pay x_1)) (Ex.l (Cls.pay x_1))) + (1 : Nat) ≤ (1000000000000 : Nat) ∧ (decide ((↑(nestX (Ex.mk (Ex.op (Cls.pay x_1)) (Ex.n (Cls.pay x_1)) (Ex.d0 (Cls.pay
  x_1)) (Ex.d1 (Cls.pay x_1)) (Ex.d2 (Cls.pay x_1)) (Ex.d3 (Cls.pay x_1)) (Ex.l (Cls.pay x_1)))) : Int) > (24 : Int)) = true → ∃ (x_4 : C16X), R x_4 ∧ x_4.2 + (1 : Nat) ≤ x.2 ∧ true
  = true ∧ ((0 : Nat) = (0 : Nat) ∧ ((0 : Nat) = (0 : Nat) ∧ List.length (C16X.W x) + List.length (List.take (1 : Nat) [Cls.name x_1]) = List.length (C16X.W x_4) ∧ True) ∧ true =
  C16X.d x_4 ∧ wr IntKind.i64 ((↑(C16X.k x) : Int) + (1 : Int)) = (↑(C16X.k x_4) : Int) ∧ True) ∧ (Tar.name t = Tar.name t ∧ Tar.for_ t = Tar.for_ t ∧ (Tar.clauses t = Tar.clauses t
  ∧ (false = true → false = true)) ∧ True) ∧ (List.take (List.length (C16X.W x)) (C16X.W x) ++ List.take (1 : Nat) [Cls.name x_1] = C16X.W x_4 ∧ (0 : Nat) = (0 : Nat)) ∧ True) ∧
  (decide ((↑(nestX (Ex.mk (Ex.op (Cls.pay x_1)) (Ex.n (Cls.pay x_1)) (Ex.d0 (Cls.pay x_1)) (Ex.d1 (Cls.pay x_1)) (Ex.d2 (Cls.pay x_1)) (Ex.d3 (Cls.pay x_1)) (Ex.l (Cls.pay x_1)))) :
  Int) > (24 : Int)) = false → ∃ (x_4 : C16X), R x_4 ∧ x_4.2 + (1 : Nat) ≤ x.2 ∧ true = true ∧ ((0 : Nat) = (0 : Nat) ∧ ((0 : Nat) = (0 : Nat) ∧ List.length (C16X.W x) + List.length
  (List.take (1 : Nat) [Cls.name x_1]) = List.length (C16X.W x_4) ∧ True) ∧ false = C16X.d x_4 ∧ wr IntKind.i64 ((↑(C16X.k x) : Int) + (1 : Int)) = (↑(C16X.k x_4) : Int) ∧ True) ∧
  (Tar.name t = Tar.name t ∧ Tar.for_ t = Tar.for_ t ∧ (Tar.clauses t = Tar.clauses t ∧ (false = true → false = true)) ∧ True) ∧ (List.take (List.length (C16X.W x)) (C16X.W x) ++
  List.take (1 : Nat) [Cls.name x_1] = C16X.W x_4 ∧ (0 : Nat) = (0 : Nat)) ∧ True)))))) ∧ ((x_3 == Cls.name x_1) = false → ∃ (x_4 : KX), R_1 x_4 ∧ x_4.2 + (1 : Nat) ≤ x_2.2 ∧ true =
  true ∧ (((0 : Nat) = (0 : Nat) ∧ List.length (C16X.W x) = List.length (C16X.W x) ∧ True) ∧ Cls.name x_1 = Cls.name x_1 ∧ wr IntKind.i64 ((↑(KX.k x_2) : Int) + (1 : Int)) = (↑(KX.k
  x_4) : Int) ∧ True) ∧ (C16X.W x = C16X.W x ∧ (0 : Nat) = (0 : Nat)) ∧ True)) ∧ (decide ((↑(KX.k x_2) : Int) < (↑(List.length (C16X.W x)) : Int)) = false → (0 : Nat) + (1 : Nat) ≤
  (1 : Nat) ∧ (List.take (1 : Nat) [Cls.name x_1] = [] → (C16X.d x = true → ∃ (x_3 : C16X), R x_3 ∧ x_3.2 + (1 : Nat) ≤ x.2 ∧ true = true ∧ ((0 : Nat) = (0 : Nat) ∧ ((0 : Nat) = (0 :
  Nat) ∧ List.length (C16X.W x) = List.length (C16X.W x_3) ∧ True) ∧ true = C16X.d x_3 ∧ wr IntKind.i64 ((↑(C16X.k x) : Int) + (1 : Int)) = (↑(C16X.k x_3) : Int) ∧ True) ∧ (Tar.name
  t = Tar.name t ∧ Tar.for_ t = Tar.for_ t ∧ (Tar.clauses t = Tar.clauses t ∧ (false = true → false = true)) ∧ True) ∧ (C16X.W x = C16X.W x_3 ∧ (0 : Nat) = (0 : Nat)) ∧ True) ∧
  (C16X.d x = false → (decide ((↑(List.length (Cls.when_ x_1)) : Int) > (8 : Int)) = true → ∃ (x_3 : C16X), R x_3 ∧ x_3.2 + (1 : Nat) ≤ x.2 ∧ true = true ∧ ((0 : Nat) = (0 : Nat) ∧
  ((0 : Nat) = (0 : Nat) ∧ List.length (C16X.W x) = List.length (C16X.W x_3) ∧ True) ∧ true = C16X.d x_3 ∧ wr IntKind.i64 ((↑(C16X.k x) : Int) + (1 : Int)) = (↑(C16X.k x_3) : Int) ∧
  True) ∧ (Tar.name t = Tar.name t ∧ Tar.for_ t = Tar.for_ t ∧ (Tar.clauses t = Tar.clauses t ∧ (false = true → false = true)) ∧ True) ∧ (C16X.W x = C16X.W x_3 ∧ (0 : Nat) = (0 :
  Nat)) ∧ True) ∧ (decide ((↑(List.length (Cls.when_ x_1)) : Int) > (8 : Int)) = false → Ex.sz (Ex.mk (Ex.op (Cls.pay x_1)) (Ex.n (Cls.pay x_1)) (Ex.d0 (Cls.pay x_1)) (Ex.d1 (Cls.pay
  x_1)) (Ex.d2 (Cls.pay x_1)) (Ex.d3 (Cls.pay x_1)) (Ex.l (Cls.pay x_1))) + (1 : Nat) ≤ (1000000000000 : Nat) ∧ (decide ((↑(nestX (Ex.mk (Ex.op (Cls.pay x_1)) (Ex.n (Cls.pay x_1))
  (Ex.d0 (Cls.pay x_1)) (Ex.d1 (Cls.pay x_1)) (Ex.d2 (Cls.pay x_1)) (Ex.d3 (Cls.pay x_1)) (Ex.l (Cls.pay x_1)))) : Int) > (24 : Int)) = true → ∃ (x_3 : C16X), R x_3 ∧ x_3.2 + (1 :
  Nat) ≤ x.2 ∧ true = true ∧ ((0 : Nat) = (0 : Nat) ∧ ((0 : Nat) = (0 : Nat) ∧ List.length (C16X.W x) = List.length (C16X.W x_3) ∧ True) ∧ true = C16X.d x_3 ∧ wr IntKind.i64
  ((↑(C16X.k x) : Int) + (1 : Int)) = (↑(C16X.k x_3) : Int) ∧ True) ∧ (Tar.name t = Tar.name t ∧ Tar.for_ t = Tar.for_ t ∧ (Tar.clauses t = Tar.clauses t ∧ (false = true → false =
  true)) ∧ True) ∧ (C16X.W x = C16X.W x_3 ∧ (0 : Nat) = (0 : Nat)) ∧ True) ∧ (decide ((↑(nestX (Ex.mk (Ex.op (Cls.pay x_1)) (Ex.n (Cls.pay x_1)) (Ex.d0 (Cls.pay x_1)) (Ex.d1 (Cls.pay
  x_1)) (Ex.d2 (Cls.pay x_1)) (Ex.d3 (Cls.pay x_1)) (Ex.l (Cls.pay x_1)))) : Int) > (24 : Int)) = false → ∃ (x_3 : C16X), R x_3 ∧ x_3.2 + (1 : Nat) ≤ x.2 ∧ true = true ∧ ((0 : Nat) =
  (0 : Nat) ∧ ((0 : Nat) = (0 : Nat) ∧ List.length (C16X.W x) = List.length (C16X.W x_3) ∧ True) ∧ false = C16X.d x_3 ∧ wr IntKind.i64 ((↑(C16X.k x) : Int) + (1 : Int)) = (↑(C16X.k
  x_3) : Int) ∧ True) ∧ (Tar.name t = Tar.name t ∧ Tar.for_ t = Tar.for_ t ∧ (Tar.clauses t = Tar.clauses t ∧ (false = true → false = true)) ∧ True) ∧ (C16X.W x = C16X.W x_3 ∧ (0 :
  Nat) = (0 : Nat)) ∧ True)))) ∧ (List.take (1 : Nat) [Cls.name x_1] ≠ [] → (List.length (C16X.W x) ≤ List.length (C16X.W x) ∧ (0 : Nat) ≤ List.length (C16X.W x) ∧ (List.length
  (C16X.W x) + List.length (List.take (1 : Nat) [Cls.name x_1])) * (16 : Nat) ≤ (140737488355328 : Nat)) ∧ (C16X.d x = true → ∃ (x_3 : C16X), R x_3 ∧ x_3.2 + (1 : Nat) ≤ x.2 ∧ true =
  true ∧ ((0 : Nat) = (0 : Nat) ∧ ((0 : Nat) = (0 : Nat) ∧ List.length (C16X.W x) + List.length (List.take (1 : Nat) [Cls.name x_1]) = List.length (C16X.W x_3) ∧ True) ∧ true =
  C16X.d x_3 ∧ wr IntKind.i64 ((↑(C16X.k x) : Int) + (1 : Int)) = (↑(C16X.k x_3) : Int) ∧ True) ∧ (Tar.name t = Tar.name t ∧ Tar.for_ t = Tar.for_ t ∧ (Tar.clauses t = Tar.clauses t
  ∧ (false = true → false = true)) ∧ True) ∧ (List.take (List.length (C16X.W x)) (C16X.W x) ++ List.take (1 : Nat) [Cls.name x_1] = C16X.W x_3 ∧ (0 : Nat) = (0 : Nat)) ∧ True) ∧
  (C16X.d x = false → (decide ((↑(List.length (Cls.when_ x_1)) : Int) > (8 : Int)) = true → ∃ (x_3 : C16X), R x_3 ∧ x_3.2 + (1 : Nat) ≤ x.2 ∧ true = true ∧ ((0 : Nat) = (0 : Nat) ∧
  ((0 : Nat) = (0 : Nat) ∧ List.length (C16X.W x) + List.length (List.take (1 : Nat) [Cls.name x_1]) = List.length (C16X.W x_3) ∧ True) ∧ true = C16X.d x_3 ∧ wr IntKind.i64
  ((↑(C16X.k x) : Int) + (1 : Int)) = (↑(C16X.k x_3) : Int) ∧ True) ∧ (Tar.name t = Tar.name t ∧ Tar.for_ t = Tar.for_ t ∧ (Tar.clauses t = Tar.clauses t ∧ (false = true → false =
  true)) ∧ True) ∧ (List.take (List.length (C16X.W x)) (C16X.W x) ++ List.take (1 : Nat) [Cls.name x_1] = C16X.W x_3 ∧ (0 : Nat) = (0 : Nat)) ∧ True) ∧ (decide ((↑(List.length
  (Cls.when_ x_1)) : Int) > (8 : Int)) = false → Ex.sz (Ex.mk (Ex.op (Cls.pay x_1)) (Ex.n (Cls.pay x_1)) (Ex.d0 (Cls.pay x_1)) (Ex.d1 (Cls.pay x_1)) (Ex.d2 (Cls.pay x_1)) (Ex.d3
  (Cls.pay x_1)) (Ex.l (Cls.pay x_1))) + (1 : Nat) ≤ (1000000000000 : Nat) ∧ (decide ((↑(nestX (Ex.mk (Ex.op (Cls.pay x_1)) (Ex.n (Cls.pay x_1)) (Ex.d0 (Cls.pay x_1)) (Ex.d1 (Cls.pay
  x_1)) (Ex.d2 (Cls.pay x_1)) (Ex.d3 (Cls.pay x_1)) (Ex.l (Cls.pay x_1)))) : Int) > (24 : Int)) = true → ∃ (x_3 : C16X), R x_3 ∧ x_3.2 + (1 : Nat) ≤ x.2 ∧ true = true ∧ ((0 : Nat) =
  (0 : Nat) ∧ ((0 : Nat) = (0 : Nat) ∧ List.length (C16X.W x) + List.length (List.take (1 : Nat) [Cls.name x_1]) = List.length (C16X.W x_3) ∧ True) ∧ true = C16X.d x_3 ∧ wr
  IntKind.i64 ((↑(C16X.k x) : Int) + (1 : Int)) = (↑(C16X.k x_3) : Int) ∧ True) ∧ (Tar.name t = Tar.name t ∧ Tar.for_ t = Tar.for_ t ∧ (Tar.clauses t = Tar.clauses t ∧ (false = true
  → false = true)) ∧ True) ∧ (List.take (List.length (C16X.W x)) (C16X.W x) ++ List.take (1 : Nat) [Cls.name x_1] = C16X.W x_3 ∧ (0 : Nat) = (0 : Nat)) ∧ True) ∧ (decide ((↑(nestX
  (Ex.mk (Ex.op (Cls.pay x_1)) (Ex.n (Cls.pay x_1)) (Ex.d0 (Cls.pay x_1)) (Ex.d1 (Cls.pay x_1)) (Ex.d2 (Cls.pay x_1)) (Ex.d3 (Cls.pay x_1)) (Ex.l (Cls.pay x_1)))) : Int) > (24 :
  Int)) = false → ∃ (x_3 : C16X), R x_3 ∧ x_3.2 + (1 : Nat) ≤ x.2 ∧ true = true ∧ ((0 : Nat) = (0 : Nat) ∧ ((0 : Nat) = (0 : Nat) ∧ List.length (C16X.W x) + List.length (List.take (1
  : Nat) [Cls.name x_1]) = List.length (C16X.W x_3) ∧ True) ∧ false = C16X.d x_3 ∧ wr IntKind.i64 ((↑(C16X.k x) : Int) + (1 : Int)) = (↑(C16X.k x_3) : Int) ∧ True) ∧ (Tar.name t =
  Tar.name t ∧ Tar.for_ t = Tar.for_ t ∧ (Tar.clauses t = Tar.clauses t ∧ (false = true → false = true)) ∧ True) ∧ (List.take (List.length (C16X.W x)) (C16X.W x) ++ List.take (1 :
  Nat) [Cls.name x_1] = C16X.W x_3 ∧ (0 : Nat) = (0 : Nat)) ∧ True)))))) ∧ (decide ((↑(C16X.k x) : Int) < (↑(List.length (Tar.clauses t)) : Int)) = false → (C16X.d x = true → (2 :
  Int) = v) ∧ (C16X.d x = false → (0 : Int) = v))) ∧ (decide ((↑(List.length (Tar.clauses t)) : Int) > (64 : Int)) = false → ∃ (R : C16X → Prop), (∃ (x : C16X), R x ∧ true = true ∧
  ((0 : Nat) = (0 : Nat) ∧ ((0 : Nat) = (0 : Nat) ∧ (40 : Nat) = List.length (C16X.W x) ∧ True) ∧ false = C16X.d x ∧ (0 : Int) = (↑(C16X.k x) : Int) ∧ True) ∧ (Tar.name t = Tar.name
  t ∧ Tar.for_ t = Tar.for_ t ∧ (Tar.clauses t = Tar.clauses t ∧ (false = true → false = true)) ∧ True) ∧ ([toL (ByteArray.mk #[(116 : UInt8), (97 : UInt8), (114 : UInt8), (105 :
  UInt8), (102 : UInt8), (102 : UInt8)]), toL (ByteArray.mk #[(102 : UInt8), (111 : UInt8), (114 : UInt8)]), toL (ByteArray.mk #[(99 : UInt8), (108 : UInt8), (97 : UInt8), (117 :
  UInt8), (115 : UInt8), (101 : UInt8)]), toL (ByteArray.mk #[(119 : UInt8), (104 : UInt8), (101 : UInt8), (110 : UInt8)]), toL (ByteArray.mk #[(97 : UInt8), (110 : UInt8), (100 :
  UInt8)]), toL (ByteArray.mk #[(105 : UInt8), (110 : UInt8)]), toL (ByteArray.mk #[(105 : UInt8), (115 : UInt8)]), toL (ByteArray.mk #[(112 : UInt8), (97 : UInt8), (121 : UInt8)]),
  toL (ByteArray.mk #[(109 : UInt8), (105 : UInt8), (110 : UInt8)]), toL (ByteArray.mk #[(109 : UInt8), (97 : UInt8), (120 : UInt8)]), toL (ByteArray.mk #[(100 : UInt8), (111 :
  UInt8), (119 : UInt8), (110 : UInt8)]), toL (ByteArray.mk #[(117 : UInt8), (112 : UInt8)]), toL (ByteArray.mk #[(104 : UInt8), (97 : UInt8), (108 : UInt8), (102 : UInt8)]), toL
  (ByteArray.mk #[(105 : UInt8), (102 : UInt8)]), toL (ByteArray.mk #[(109 : UInt8), (111 : UInt8), (110 : UInt8), (101 : UInt8), (121 : UInt8)]), toL (ByteArray.mk #[(109 : UInt8),
  (105 : UInt8), (110 : UInt8), (117 : UInt8), (116 : UInt8), (101 : UInt8)]), toL (ByteArray.mk #[(112 : UInt8), (101 : UInt8), (114 : UInt8)]), toL (ByteArray.mk #[(107 : UInt8),
  (103 : UInt8)]), toL (ByteArray.mk #[(116 : UInt8), (121 : UInt8), (112 : UInt8), (101 : UInt8)]), toL (ByteArray.mk #[(111 : UInt8), (119 : UInt8), (110 : UInt8), (101 : UInt8),
  (114 : UInt8)]), toL (ByteArray.mk #[(114 : UInt8), (97 : UInt8), (105 : UInt8), (108 : UInt8), (119 : UInt8), (97 : UInt8), (121 : UInt8)]), toL (ByteArray.mk #[(115 : UInt8),
  (104 : UInt8), (105 : UInt8), (112 : UInt8), (112 : UInt8), (101 : UInt8), (114 : UInt8)]), toL (ByteArray.mk #[(99 : UInt8), (108 : UInt8), (97 : UInt8), (115 : UInt8), (115 :
  UInt8)]), toL (ByteArray.mk #[(119 : UInt8), (101 : UInt8), (105 : UInt8), (103 : UInt8), (104 : UInt8), (116 : UInt8)]), toL (ByteArray.mk #[(107 : UInt8), (109 : UInt8)]), toL
  (ByteArray.mk #[(109 : UInt8), (105 : UInt8), (110 : UInt8), (117 : UInt8), (116 : UInt8), (101 : UInt8), (115 : UInt8)]), toL (ByteArray.mk #[(119 : UInt8), (111 : UInt8), (114 :
  UInt8), (107 : UInt8), (105 : UInt8), (110 : UInt8), (103 : UInt8)]), toL (ByteArray.mk #[(99 : UInt8), (111 : UInt8), (100 : UInt8), (101 : UInt8)]), toL (ByteArray.mk #[(119 :
  UInt8), (111 : UInt8), (114 : UInt8), (116 : UInt8), (104 : UInt8)]), toL (ByteArray.mk #[(99 : UInt8), (111 : UInt8), (115 : UInt8), (116 : UInt8)]), toL (ByteArray.mk #[(109 :
  UInt8), (111 : UInt8), (110 : UInt8), (116 : UInt8), (104 : UInt8)]), toL (ByteArray.mk #[(98 : UInt8), (101 : UInt8), (103 : UInt8), (105 : UInt8), (110 : UInt8)]), toL
  (ByteArray.mk #[(112 : UInt8), (97 : UInt8), (114 : UInt8), (116 : UInt8), (115 : UInt8)]), toL (ByteArray.mk #[(112 : UInt8), (97 : UInt8), (114 : UInt8), (116 : UInt8)]), toL
  (ByteArray.mk #[(104 : UInt8), (105 : UInt8), (114 : UInt8), (101 : UInt8)]), toL (ByteArray.mk #[(100 : UInt8), (101 : UInt8), (109 : UInt8), (117 : UInt8), (114 : UInt8), (114 :
  UInt8), (97 : UInt8), (103 : UInt8), (101 : UInt8)]), toL (ByteArray.mk #[(102 : UInt8), (114 : UInt8), (101 : UInt8), (105 : UInt8), (103 : UInt8), (104 : UInt8), (116 : UInt8)]),
  toL (ByteArray.mk #[(114 : UInt8), (101 : UInt8), (112 : UInt8), (97 : UInt8), (105 : UInt8), (114 : UInt8)]), toL (ByteArray.mk #[(108 : UInt8), (111 : UInt8), (115 : UInt8), (115
  : UInt8)]), toL (ByteArray.mk #[(99 : UInt8), (108 : UInt8), (101 : UInt8), (97 : UInt8), (110 : UInt8), (105 : UInt8), (110 : UInt8), (103 : UInt8)])] = C16X.W x ∧ (0 : Nat) = (0
  : Nat)) ∧ True) ∧ ∀ (x : C16X), R x → (decide ((↑(C16X.k x) : Int) < (↑(List.length (Tar.clauses t)) : Int)) = true → (0 : Int) ≤ (↑(C16X.k x) : Int) ∧ (↑(C16X.k x) : Int) + (1 :
  Int) ≤ (↑(List.length (Tar.clauses t)) : Int) ∧ ∀ (x_1 : Cls), (Tar.clauses t)[Int.toNat (↑(C16X.k x) : Int)]? = some x_1 → ∃ (R_1 : KX → Prop), (∃ (x_2 : KX), R_1 x_2 ∧ true =
  true ∧ (((0 : Nat) = (0 : Nat) ∧ List.length (C16X.W x) = List.length (C16X.W x) ∧ True) ∧ Cls.name x_1 = Cls.name x_1 ∧ (0 : Int) = (↑(KX.k x_2) : Int) ∧ True) ∧ (C16X.W x =
  C16X.W x ∧ (0 : Nat) = (0 : Nat)) ∧ True) ∧ ∀ (x_2 : KX), R_1 x_2 → (decide ((↑(KX.k x_2) : Int) < (↑(List.length (C16X.W x)) : Int)) = true → ((0 : Int) ≤ (↑(KX.k x_2) : Int) ∧
  (↑(KX.k x_2) : Int) + (1 : Int) ≤ (↑(List.length (C16X.W x)) : Int)) ∧ (0 : Nat) + Int.toNat (↑(KX.k x_2) : Int) + (1 : Nat) ≤ List.length (C16X.W x) ∧ ∀ (x_3 : List Nat), (C16X.W
  x)[(0 : Nat) + Int.toNat (↑(KX.k x_2) : Int)]? = some x_3 → ((x_3 == Cls.name x_1) = true → (decide ((↑(KX.k x_2) : Int) ≥ (0 : Int)) = true → (161 : Int) = v) ∧ (decide ((↑(KX.k
  x_2) : Int) ≥ (0 : Int)) = false → (0 : Nat) + (1 : Nat) ≤ (1 : Nat) ∧ (List.take (1 : Nat) [Cls.name x_1] = [] → (C16X.d x = true → ∃ (x_4 : C16X), R x_4 ∧ x_4.2 + (1 : Nat) ≤ x.2
  ∧ true = true ∧ ((0 : Nat) = (0 : Nat) ∧ ((0 : Nat) = (0 : Nat) ∧ List.length (C16X.W x) = List.length (C16X.W x_4) ∧ True) ∧ true = C16X.d x_4 ∧ wr IntKind.i64 ((↑(C16X.k x) :
  Int) + (1 : Int)) = (↑(C16X.k x_4) : Int) ∧ True) ∧ (Tar.name t = Tar.name t ∧ Tar.for_ t = Tar.for_ t ∧ (Tar.clauses t = Tar.clauses t ∧ (false = true → false = true)) ∧ True) ∧
  (C16X.W x = C16X.W x_4 ∧ (0 : Nat) = (0 : Nat)) ∧ True) ∧ (C16X.d x = false → (decide ((↑(List.length (Cls.when_ x_1)) : Int) > (8 : Int)) = true → ∃ (x_4 : C16X), R x_4 ∧ x_4.2 +
  (1 : Nat) ≤ x.2 ∧ true = true ∧ ((0 : Nat) = (0 : Nat) ∧ ((0 : Nat) = (0 : Nat) ∧ List.length (C16X.W x) = List.length (C16X.W x_4) ∧ True) ∧ true = C16X.d x_4 ∧ wr IntKind.i64
  ((↑(C16X.k x) : Int) + (1 : Int)) = (↑(C16X.k x_4) : Int) ∧ True) ∧ (Tar.name t = Tar.name t ∧ Tar.for_ t = Tar.for_ t ∧ (Tar.clauses t = Tar.clauses t ∧ (false = true → false =
  true)) ∧ True) ∧ (C16X.W x = C16X.W x_4 ∧ (0 : Nat) = (0 : Nat)) ∧ True) ∧ (decide ((↑(List.length (Cls.when_ x_1)) : Int) > (8 : Int)) = false → Ex.sz (Ex.mk (Ex.op (Cls.pay x_1))
  (Ex.n (Cls.pay x_1)) (Ex.d0 (Cls.pay x_1)) (Ex.d1 (Cls.pay x_1)) (Ex.d2 (Cls.pay x_1)) (Ex.d3 (Cls.pay x_1)) (Ex.l (Cls.pay x_1))) + (1 : Nat) ≤ (1000000000000 : Nat) ∧ (decide
  ((↑(nestX (Ex.mk (Ex.op (Cls.pay x_1)) (Ex.n (Cls.pay x_1)) (Ex.d0 (Cls.pay x_1)) (Ex.d1 (Cls.pay x_1)) (Ex.d2 (Cls.pay x_1)) (Ex.d3 (Cls.pay x_1)) (Ex.l (Cls.pay x_1)))) : Int) >
  (24 : Int)) = true → ∃ (x_4 : C16X), R x_4 ∧ x_4.2 + (1 : Nat) ≤ x.2 ∧ true = true ∧ ((0 : Nat) = (0 : Nat) ∧ ((0 : Nat) = (0 : Nat) ∧ List.length (C16X.W x) = List.length (C16X.W
  x_4) ∧ True) ∧ true = C16X.d x_4 ∧ wr IntKind.i64 ((↑(C16X.k x) : Int) + (1 : Int)) = (↑(C16X.k x_4) : Int) ∧ True) ∧ (Tar.name t = Tar.name t ∧ Tar.for_ t = Tar.for_ t ∧
  (Tar.clauses t = Tar.clauses t ∧ (false = true → false = true)) ∧ True) ∧ (C16X.W x = C16X.W x_4 ∧ (0 : Nat) = (0 : Nat)) ∧ True) ∧ (decide ((↑(nestX (Ex.mk (Ex.op (Cls.pay x_1))
  (Ex.n (Cls.pay x_1)) (Ex.d0 (Cls.pay x_1)) (Ex.d1 (Cls.pay x_1)) (Ex.d2 (Cls.pay x_1)) (Ex.d3 (Cls.pay x_1)) (Ex.l (Cls.pay x_1)))) : Int) > (24 : Int)) = false → ∃ (x_4 : C16X), R
  x_4 ∧ x_4.2 + (1 : Nat) ≤ x.2 ∧ true = true ∧ ((0 : Nat) = (0 : Nat) ∧ ((0 : Nat) = (0 : Nat) ∧ List.length (C16X.W x) = List.length (C16X.W x_4) ∧ True) ∧ false = C16X.d x_4 ∧ wr
  IntKind.i64 ((↑(C16X.k x) : Int) + (1 : Int)) = (↑(C16X.k x_4) : Int) ∧ True) ∧ (Tar.name t = Tar.name t ∧ Tar.for_ t = Tar.for_ t ∧ (Tar.clauses t = Tar.clauses t ∧ (false = true
  → false = true)) ∧ True) ∧ (C16X.W x = C16X.W x_4 ∧ (0 : Nat) = (0 : Nat)) ∧ True)))) ∧ (List.take (1 : Nat) [Cls.name x_1] ≠ [] → (List.length (C16X.W x) ≤ List.length (C16X.W x)
  ∧ (0 : Nat) ≤ List.length (C16X.W x) ∧ (List.length (C16X.W x) + List.length (List.take (1 : Nat) [Cls.name x_1])) * (16 : Nat) ≤ (140737488355328 : Nat)) ∧ (C16X.d x = true → ∃
  (x_4 : C16X), R x_4 ∧ x_4.2 + (1 : Nat) ≤ x.2 ∧ true = true ∧ ((0 : Nat) = (0 : Nat) ∧ ((0 : Nat) = (0 : Nat) ∧ List.length (C16X.W x) + List.length (List.take (1 : Nat) [Cls.name
  x_1]) = List.length (C16X.W x_4) ∧ True) ∧ true = C16X.d x_4 ∧ wr IntKind.i64 ((↑(C16X.k x) : Int) + (1 : Int)) = (↑(C16X.k x_4) : Int) ∧ True) ∧ (Tar.name t = Tar.name t ∧
  Tar.for_ t = Tar.for_ t ∧ (Tar.clauses t = Tar.clauses t ∧ (false = true → false = true)) ∧ True) ∧ (List.take (List.length (C16X.W x)) (C16X.W x) ++ List.take (1 : Nat) [Cls.name
  x_1] = C16X.W x_4 ∧ (0 : Nat) = (0 : Nat)) ∧ True) ∧ (C16X.d x = false → (decide ((↑(List.length (Cls.when_ x_1)) : Int) > (8 : Int)) = true → ∃ (x_4 : C16X), R x_4 ∧ x_4.2 + (1 :
  Nat) ≤ x.2 ∧ true = true ∧ ((0 : Nat) = (0 : Nat) ∧ ((0 : Nat) = (0 : Nat) ∧ List.length (C16X.W x) + List.length (List.take (1 : Nat) [Cls.name x_1]) = List.length (C16X.W x_4) ∧
  True) ∧ true = C16X.d x_4 ∧ wr IntKind.i64 ((↑(C16X.k x) : Int) + (1 : Int)) = (↑(C16X.k x_4) : Int) ∧ True) ∧ (Tar.name t = Tar.name t ∧ Tar.for_ t = Tar.for_ t ∧ (Tar.clauses t =
  Tar.clauses t ∧ (false = true → false = true)) ∧ True) ∧ (List.take (List.length (C16X.W x)) (C16X.W x) ++ List.take (1 : Nat) [Cls.name x_1] = C16X.W x_4 ∧ (0 : Nat) = (0 : Nat))
  ∧ True) ∧ (decide ((↑(List.length (Cls.when_ x_1)) : Int) > (8 : Int)) = false → Ex.sz (Ex.mk (Ex.op (Cls.pay x_1)) (Ex.n (Cls.pay x_1)) (Ex.d0 (Cls.pay x_1)) (Ex.d1 (Cls.pay x_1))
  (Ex.d2 (Cls.pay x_1)) (Ex.d3 (Cls.pay x_1)) (Ex.l (Cls.pay x_1))) + (1 : Nat) ≤ (1000000000000 : Nat) ∧ (decide ((↑(nestX (Ex.mk (Ex.op (Cls.pay x_1)) (Ex.n (Cls.pay x_1)) (Ex.d0
  (Cls.pay x_1)) (Ex.d1 (Cls.pay x_1)) (Ex.d2 (Cls.pay x_1)) (Ex.d3 (Cls.pay x_1)) (Ex.l (Cls.pay x_1)))) : Int) > (24 : Int)) = true → ∃ (x_4 : C16X), R x_4 ∧ x_4.2 + (1 : Nat) ≤
  x.2 ∧ true = true ∧ ((0 : Nat) = (0 : Nat) ∧ ((0 : Nat) = (0 : Nat) ∧ List.length (C16X.W x) + List.length (List.take (1 : Nat) [Cls.name x_1]) = List.length (C16X.W x_4) ∧ True) ∧
  true = C16X.d x_4 ∧ wr IntKind.i64 ((↑(C16X.k x) : Int) + (1 : Int)) = (↑(C16X.k x_4) : Int) ∧ True) ∧ (Tar.name t = Tar.name t ∧ Tar.for_ t = Tar.for_ t ∧ (Tar.clauses t =
  Tar.clauses t ∧ (false = true → false = true)) ∧ True) ∧ (List.take (List.length (C16X.W x)) (C16X.W x) ++ List.take (1 : Nat) [Cls.name x_1] = C16X.W x_4 ∧ (0 : Nat) = (0 : Nat))
  ∧ True) ∧ (decide ((↑(nestX (Ex.mk (Ex.op (Cls.pay x_1)) (Ex.n (Cls.pay x_1)) (Ex.d0 (Cls.pay x_1)) (Ex.d1 (Cls.pay x_1)) (Ex.d2 (Cls.pay x_1)) (Ex.d3 (Cls.pay x_1)) (Ex.l (Cls.pay
  x_1)))) : Int) > (24 : Int)) = false → ∃ (x_4 : C16X), R x_4 ∧ x_4.2 + (1 : Nat) ≤ x.2 ∧ true = true ∧ ((0 : Nat) = (0 : Nat) ∧ ((0 : Nat) = (0 : Nat) ∧ List.length (C16X.W x) +
  List.length (List.take (1 : Nat) [Cls.name x_1]) = List.length (C16X.W x_4) ∧ True) ∧ false = C16X.d x_4 ∧ wr IntKind.i64 ((↑(C16X.k x) : Int) + (1 : Int)) = (↑(C16X.k x_4) : Int)
  ∧ True) ∧ (Tar.name t = Tar.name t ∧ Tar.for_ t = Tar.for_ t ∧ (Tar.clauses t = Tar.clauses t ∧ (false = true → false = true)) ∧ True) ∧ (List.take (List.length (C16X.W x)) (C16X.W
  x) ++ List.take (1 : Nat) [Cls.name x_1] = C16X.W x_4 ∧ (0 : Nat) = (0 : Nat)) ∧ True)))))) ∧ ((x_3 == Cls.name x_1) = false → ∃ (x_4 : KX), R_1 x_4 ∧ x_4.2 + (1 : Nat) ≤ x_2.2 ∧
  true = true ∧ (((0 : Nat) = (0 : Nat) ∧ List.length (C16X.W x) = List.length (C16X.W x) ∧ True) ∧ Cls.name x_1 = Cls.name x_1 ∧ wr IntKind.i64 ((↑(KX.k x_2) : Int) + (1 : Int)) =
  (↑(KX.k x_4) : Int) ∧ True) ∧ (C16X.W x = C16X.W x ∧ (0 : Nat) = (0 : Nat)) ∧ True)) ∧ (decide ((↑(KX.k x_2) : Int) < (↑(List.length (C16X.W x)) : Int)) = false → (0 : Nat) + (1 :
  Nat) ≤ (1 : Nat) ∧ (List.take (1 : Nat) [Cls.name x_1] = [] → (C16X.d x = true → ∃ (x_3 : C16X), R x_3 ∧ x_3.2 + (1 : Nat) ≤ x.2 ∧ true = true ∧ ((0 : Nat) = (0 : Nat) ∧ ((0 : Nat)
  = (0 : Nat) ∧ List.length (C16X.W x) = List.length (C16X.W x_3) ∧ True) ∧ true = C16X.d x_3 ∧ wr IntKind.i64 ((↑(C16X.k x) : Int) + (1 : Int)) = (↑(C16X.k x_3) : Int) ∧ True) ∧
  (Tar.name t = Tar.name t ∧ Tar.for_ t = Tar.for_ t ∧ (Tar.clauses t = Tar.clauses t ∧ (false = true → false = true)) ∧ True) ∧ (C16X.W x = C16X.W x_3 ∧ (0 : Nat) = (0 : Nat)) ∧
  True) ∧ (C16X.d x = false → (decide ((↑(List.length (Cls.when_ x_1)) : Int) > (8 : Int)) = true → ∃ (x_3 : C16X), R x_3 ∧ x_3.2 + (1 : Nat) ≤ x.2 ∧ true = true ∧ ((0 : Nat) = (0 :
  Nat) ∧ ((0 : Nat) = (0 : Nat) ∧ List.length (C16X.W x) = List.length (C16X.W x_3) ∧ True) ∧ true = C16X.d x_3 ∧ wr IntKind.i64 ((↑(C16X.k x) : Int) + (1 : Int)) = (↑(C16X.k x_3) :
  Int) ∧ True) ∧ (Tar.name t = Tar.name t ∧ Tar.for_ t = Tar.for_ t ∧ (Tar.clauses t = Tar.clauses t ∧ (false = true → false = true)) ∧ True) ∧ (C16X.W x = C16X.W x_3 ∧ (0 : Nat) =
  (0 : Nat)) ∧ True) ∧ (decide ((↑(List.length (Cls.when_ x_1)) : Int) > (8 : Int)) = false → Ex.sz (Ex.mk (Ex.op (Cls.pay x_1)) (Ex.n (Cls.pay x_1)) (Ex.d0 (Cls.pay x_1)) (Ex.d1
  (Cls.pay x_1)) (Ex.d2 (Cls.pay x_1)) (Ex.d3 (Cls.pay x_1)) (Ex.l (Cls.pay x_1))) + (1 : Nat) ≤ (1000000000000 : Nat) ∧ (decide ((↑(nestX (Ex.mk (Ex.op (Cls.pay x_1)) (Ex.n (Cls.pay
  x_1)) (Ex.d0 (Cls.pay x_1)) (Ex.d1 (Cls.pay x_1)) (Ex.d2 (Cls.pay x_1)) (Ex.d3 (Cls.pay x_1)) (Ex.l (Cls.pay x_1)))) : Int) > (24 : Int)) = true → ∃ (x_3 : C16X), R x_3 ∧ x_3.2 +
  (1 : Nat) ≤ x.2 ∧ true = true ∧ ((0 : Nat) = (0 : Nat) ∧ ((0 : Nat) = (0 : Nat) ∧ List.length (C16X.W x) = List.length (C16X.W x_3) ∧ True) ∧ true = C16X.d x_3 ∧ wr IntKind.i64
  ((↑(C16X.k x) : Int) + (1 : Int)) = (↑(C16X.k x_3) : Int) ∧ True) ∧ (Tar.name t = Tar.name t ∧ Tar.for_ t = Tar.for_ t ∧ (Tar.clauses t = Tar.clauses t ∧ (false = true → false =
  true)) ∧ True) ∧ (C16X.W x = C16X.W x_3 ∧ (0 : Nat) = (0 : Nat)) ∧ True) ∧ (decide ((↑(nestX (Ex.mk (Ex.op (Cls.pay x_1)) (Ex.n (Cls.pay x_1)) (Ex.d0 (Cls.pay x_1)) (Ex.d1 (Cls.pay
  x_1)) (Ex.d2 (Cls.pay x_1)) (Ex.d3 (Cls.pay x_1)) (Ex.l (Cls.pay x_1)))) : Int) > (24 : Int)) = false → ∃ (x_3 : C16X), R x_3 ∧ x_3.2 + (1 : Nat) ≤ x.2 ∧ true = true ∧ ((0 : Nat) =
  (0 : Nat) ∧ ((0 : Nat) = (0 : Nat) ∧ List.length (C16X.W x) = List.length (C16X.W x_3) ∧ True) ∧ false = C16X.d x_3 ∧ wr IntKind.i64 ((↑(C16X.k x) : Int) + (1 : Int)) = (↑(C16X.k
  x_3) : Int) ∧ True) ∧ (Tar.name t = Tar.name t ∧ Tar.for_ t = Tar.for_ t ∧ (Tar.clauses t = Tar.clauses t ∧ (false = true → false = true)) ∧ True) ∧ (C16X.W x = C16X.W x_3 ∧ (0 :
  Nat) = (0 : Nat)) ∧ True)))) ∧ (List.take (1 : Nat) [Cls.name x_1] ≠ [] → (List.length (C16X.W x) ≤ List.length (C16X.W x) ∧ (0 : Nat) ≤ List.length (C16X.W x) ∧ (List.length
  (C16X.W x) + List.length (List.take (1 : Nat) [Cls.name x_1])) * (16 : Nat) ≤ (140737488355328 : Nat)) ∧ (C16X.d x = true → ∃ (x_3 : C16X), R x_3 ∧ x_3.2 + (1 : Nat) ≤ x.2 ∧ true =
  true ∧ ((0 : Nat) = (0 : Nat) ∧ ((0 : Nat) = (0 : Nat) ∧ List.length (C16X.W x) + List.length (List.take (1 : Nat) [Cls.name x_1]) = List.length (C16X.W x_3) ∧ True) ∧ true =
  C16X.d x_3 ∧ wr IntKind.i64 ((↑(C16X.k x) : Int) + (1 : Int)) = (↑(C16X.k x_3) : Int) ∧ True) ∧ (Tar.name t = Tar.name t ∧ Tar.for_ t = Tar.for_ t ∧ (Tar.clauses t = Tar.clauses t
  ∧ (false = true → false = true)) ∧ True) ∧ (List.take (List.length (C16X.W x)) (C16X.W x) ++ List.take (1 : Nat) [Cls.name x_1] = C16X.W x_3 ∧ (0 : Nat) = (0 : Nat)) ∧ True) ∧
  (C16X.d x = false → (decide ((↑(List.length (Cls.when_ x_1)) : Int) > (8 : Int)) = true → ∃ (x_3 : C16X), R x_3 ∧ x_3.2 + (1 : Nat) ≤ x.2 ∧ true = true ∧ ((0 : Nat) = (0 : Nat) ∧
  ((0 : Nat) = (0 : Nat) ∧ List.length (C16X.W x) + List.length (List.take (1 : Nat) [Cls.name x_1]) = List.length (C16X.W x_3) ∧ True) ∧ true = C16X.d x_3 ∧ wr IntKind.i64
  ((↑(C16X.k x) : Int) + (1 : Int)) = (↑(C16X.k x_3) : Int) ∧ True) ∧ (Tar.name t = Tar.name t ∧ Tar.for_ t = Tar.for_ t ∧ (Tar.clauses t = Tar.clauses t ∧ (false = true → false =
  true)) ∧ True) ∧ (List.take (List.length (C16X.W x)) (C16X.W x) ++ List.take (1 : Nat) [Cls.name x_1] = C16X.W x_3 ∧ (0 : Nat) = (0 : Nat)) ∧ True) ∧ (decide ((↑(List.length
  (Cls.when_ x_1)) : Int) > (8 : Int)) = false → Ex.sz (Ex.mk (Ex.op (Cls.pay x_1)) (Ex.n (Cls.pay x_1)) (Ex.d0 (Cls.pay x_1)) (Ex.d1 (Cls.pay x_1)) (Ex.d2 (Cls.pay x_1)) (Ex.d3
  (Cls.pay x_1)) (Ex.l (Cls.pay x_1))) + (1 : Nat) ≤ (1000000000000 : Nat) ∧ (decide ((↑(nestX (Ex.mk (Ex.op (Cls.pay x_1)) (Ex.n (Cls.pay x_1)) (Ex.d0 (Cls.pay x_1)) (Ex.d1 (Cls.pay
  x_1)) (Ex.d2 (Cls.pay x_1)) (Ex.d3 (Cls.pay x_1)) (Ex.l (Cls.pay x_1)))) : Int) > (24 : Int)) = true → ∃ (x_3 : C16X), R x_3 ∧ x_3.2 + (1 : Nat) ≤ x.2 ∧ true = true ∧ ((0 : Nat) =
  (0 : Nat) ∧ ((0 : Nat) = (0 : Nat) ∧ List.length (C16X.W x) + List.length (List.take (1 : Nat) [Cls.name x_1]) = List.length (C16X.W x_3) ∧ True) ∧ true = C16X.d x_3 ∧ wr
  IntKind.i64 ((↑(C16X.k x) : Int) + (1 : Int)) = (↑(C16X.k x_3) : Int) ∧ True) ∧ (Tar.name t = Tar.name t ∧ Tar.for_ t = Tar.for_ t ∧ (Tar.clauses t = Tar.clauses t ∧ (false = true
  → false = true)) ∧ True) ∧ (List.take (List.length (C16X.W x)) (C16X.W x) ++ List.take (1 : Nat) [Cls.name x_1] = C16X.W x_3 ∧ (0 : Nat) = (0 : Nat)) ∧ True) ∧ (decide ((↑(nestX
  (Ex.mk (Ex.op (Cls.pay x_1)) (Ex.n (Cls.pay x_1)) (Ex.d0 (Cls.pay x_1)) (Ex.d1 (Cls.pay x_1)) (Ex.d2 (Cls.pay x_1)) (Ex.d3 (Cls.pay x_1)) (Ex.l (Cls.pay x_1)))) : Int) > (24 :
  Int)) = false → ∃ (x_3 : C16X), R x_3 ∧ x_3.2 + (1 : Nat) ≤ x.2 ∧ true = true ∧ ((0 : Nat) = (0 : Nat) ∧ ((0 : Nat) = (0 : Nat) ∧ List.length (C16X.W x) + List.length (List.take (1
  : Nat) [Cls.name x_1]) = List.length (C16X.W x_3) ∧ True) ∧ false = C16X.d x_3 ∧ wr IntKind.i64 ((↑(C16X.k x) : Int) + (1 : Int)) = (↑(C16X.k x_3) : Int) ∧ True) ∧ (Tar.name t =
  Tar.name t ∧ Tar.for_ t = Tar.for_ t ∧ (Tar.clauses t = Tar.clauses t ∧ (false = true → false = true)) ∧ True) ∧ (List.take (List.length (C16X.W x)) (C16X.W x) ++ List.take (1 :
  Nat) [Cls.name x_1] = C16X.W x_3 ∧ (0 : Nat) = (0 : Nat)) ∧ True)))))) ∧ (decide ((↑(C16X.k x) : Int) < (↑(List.length (Tar.clauses t)) : Int)) = false → (C16X.d x = true → (2 :
  Int) = v) ∧ (C16X.d x = false → (0 : Int) = v)))))
  ) := by kernel_rfl
--@end
theorem words_eq : [toL (ByteArray.mk #[(116 : UInt8), (97 : UInt8), (114 : UInt8), (105 : UInt8), (102 : UInt8), (102 : UInt8)]), toL (ByteArray.mk #[(102 : UInt8), (111 : UInt8), (114 : UInt8)]), toL (ByteArray.mk #[(99 : UInt8), (108 : UInt8), (97 : UInt8), (117 : UInt8), (115 : UInt8), (101 : UInt8)]), toL (ByteArray.mk #[(119 : UInt8), (104 : UInt8), (101 : UInt8), (110 : UInt8)]), toL (ByteArray.mk #[(97 : UInt8), (110 : UInt8), (100 : UInt8)]), toL (ByteArray.mk #[(105 : UInt8), (110 : UInt8)]), toL (ByteArray.mk #[(105 : UInt8), (115 : UInt8)]), toL (ByteArray.mk #[(112 : UInt8), (97 : UInt8), (121 : UInt8)]), toL (ByteArray.mk #[(109 : UInt8), (105 : UInt8), (110 : UInt8)]), toL (ByteArray.mk #[(109 : UInt8), (97 : UInt8), (120 : UInt8)]), toL (ByteArray.mk #[(100 : UInt8), (111 : UInt8), (119 : UInt8), (110 : UInt8)]), toL (ByteArray.mk #[(117 : UInt8), (112 : UInt8)]), toL (ByteArray.mk #[(104 : UInt8), (97 : UInt8), (108 : UInt8), (102 : UInt8)]), toL (ByteArray.mk #[(105 : UInt8), (102 : UInt8)]), toL (ByteArray.mk #[(109 : UInt8), (111 : UInt8), (110 : UInt8), (101 : UInt8), (121 : UInt8)]), toL (ByteArray.mk #[(109 : UInt8), (105 : UInt8), (110 : UInt8), (117 : UInt8), (116 : UInt8), (101 : UInt8)]), toL (ByteArray.mk #[(112 : UInt8), (101 : UInt8), (114 : UInt8)]), toL (ByteArray.mk #[(107 : UInt8), (103 : UInt8)]), toL (ByteArray.mk #[(116 : UInt8), (121 : UInt8), (112 : UInt8), (101 : UInt8)]), toL (ByteArray.mk #[(111 : UInt8), (119 : UInt8), (110 : UInt8), (101 : UInt8), (114 : UInt8)]), toL (ByteArray.mk #[(114 : UInt8), (97 : UInt8), (105 : UInt8), (108 : UInt8), (119 : UInt8), (97 : UInt8), (121 : UInt8)]), toL (ByteArray.mk #[(115 : UInt8), (104 : UInt8), (105 : UInt8), (112 : UInt8), (112 : UInt8), (101 : UInt8), (114 : UInt8)]), toL (ByteArray.mk #[(99 : UInt8), (108 : UInt8), (97 : UInt8), (115 : UInt8), (115 : UInt8)]), toL (ByteArray.mk #[(119 : UInt8), (101 : UInt8), (105 : UInt8), (103 : UInt8), (104 : UInt8), (116 : UInt8)]), toL (ByteArray.mk #[(107 : UInt8), (109 : UInt8)]), toL (ByteArray.mk #[(109 : UInt8), (105 : UInt8), (110 : UInt8), (117 : UInt8), (116 : UInt8), (101 : UInt8), (115 : UInt8)]), toL (ByteArray.mk #[(119 : UInt8), (111 : UInt8), (114 : UInt8), (107 : UInt8), (105 : UInt8), (110 : UInt8), (103 : UInt8)]), toL (ByteArray.mk #[(99 : UInt8), (111 : UInt8), (100 : UInt8), (101 : UInt8)]), toL (ByteArray.mk #[(119 : UInt8), (111 : UInt8), (114 : UInt8), (116 : UInt8), (104 : UInt8)]), toL (ByteArray.mk #[(99 : UInt8), (111 : UInt8), (115 : UInt8), (116 : UInt8)]), toL (ByteArray.mk #[(109 : UInt8), (111 : UInt8), (110 : UInt8), (116 : UInt8), (104 : UInt8)]), toL (ByteArray.mk #[(98 : UInt8), (101 : UInt8), (103 : UInt8), (105 : UInt8), (110 : UInt8)]), toL (ByteArray.mk #[(112 : UInt8), (97 : UInt8), (114 : UInt8), (116 : UInt8), (115 : UInt8)]), toL (ByteArray.mk #[(112 : UInt8), (97 : UInt8), (114 : UInt8), (116 : UInt8)]), toL (ByteArray.mk #[(104 : UInt8), (105 : UInt8), (114 : UInt8), (101 : UInt8)]), toL (ByteArray.mk #[(100 : UInt8), (101 : UInt8), (109 : UInt8), (117 : UInt8), (114 : UInt8), (114 : UInt8), (97 : UInt8), (103 : UInt8), (101 : UInt8)]), toL (ByteArray.mk #[(102 : UInt8), (114 : UInt8), (101 : UInt8), (105 : UInt8), (103 : UInt8), (104 : UInt8), (116 : UInt8)]), toL (ByteArray.mk #[(114 : UInt8), (101 : UInt8), (112 : UInt8), (97 : UInt8), (105 : UInt8), (114 : UInt8)]), toL (ByteArray.mk #[(108 : UInt8), (111 : UInt8), (115 : UInt8), (115 : UInt8)]), toL (ByteArray.mk #[(99 : UInt8), (108 : UInt8), (101 : UInt8), (97 : UInt8), (110 : UInt8), (105 : UInt8), (110 : UInt8), (103 : UInt8)])] = resW := by decide +kernel
/-- what the reference's Check finds, name by name -/
def go16 : Bool → List (List Nat) → List Cls → Int
  | d, _, [] => if d = true then 2 else 0
  | d, W, c :: r => if c.name ∈ W then 161 else go16 (d || decide (8 < c.when_.length) || decide (24 < nestX c.pay)) (W ++ [c.name]) r
def chk16 (t : Tar) : Int := if tarF t = true then (if t.name ∈ resW then 161 else go16 (decide (64 < t.clauses.length)) resW t.clauses) else 1
theorem goC_true : ∀ (l : List Cls) (b : Bool) (m : List (List Nat × Bool)), l.all clsOk = true → goC true b m l = 161
  | [], _, _, _ => rfl
  | c :: r, b, m, h => by
    rw [List.all_cons, Bool.and_eq_true] at h
    rw [goC_cons, if_pos h.1, Bool.true_or, Bool.true_or]
    exact goC_true r _ _ h.2
theorem goC_16 : ∀ (l : List Cls) (b : Bool) (m : List (List Nat × Bool)) (W : List (List Nat)), l.all clsOk = true → (∀ s, s ∈ W ↔ s ∈ resW ∨ lookS m s = some true) → goC false b m l = go16 b W l
  | [], b, m, W, _, _ => by rw [goC, go16, if_neg (by decide)]
  | c :: r, b, m, W, h, hW => by
    rw [List.all_cons, Bool.and_eq_true] at h
    rw [goC_cons, if_pos h.1, go16]
    by_cases hc : c.name ∈ W
    · rw [if_pos hc]
      have : (false || resF c.name || (lookS m c.name).getD false) = true := by
        rcases (hW _).1 hc with h1 | h1
        · rw [show resF c.name = true from decide_eq_true h1]; simp
        · rw [h1]; simp
      rw [this]
      exact goC_true r _ _ h.2
    · rw [if_neg hc]
      have h1 : ¬ c.name ∈ resW := fun h => hc ((hW _).2 (.inl h))
      have h2 : (lookS m c.name).getD false = false := by
        cases hl : lookS m c.name with
        | none => rfl
        | some v =>
          cases v with
          | false => rfl
          | true => exact absurd ((hW _).2 (.inr hl)) hc
      rw [show resF c.name = false from decide_eq_false h1, h2]
      refine goC_16 r _ _ _ h.2 fun s => ?_
      rw [lookS_put, List.mem_append, hW s, List.mem_singleton]
      by_cases e : c.name = s
      · rw [if_pos e]; exact ⟨fun _ => .inr rfl, fun _ => .inr e.symm⟩
      · rw [if_neg e]; exact ⟨fun h => h.elim id fun h => absurd h.symm e, .inl⟩
theorem goC_bad : ∀ (l : List Cls) (a b : Bool) (m : List (List Nat × Bool)), l.all clsOk = false → goC a b m l = 1
  | [], _, _, _, h => by cases h
  | c :: r, a, b, m, h => by
    rw [goC_cons]
    by_cases hc : clsOk c = true
    · rw [List.all_cons, hc, Bool.true_and] at h
      rw [if_pos hc]; exact goC_bad r _ _ _ h
    · rw [if_neg hc]
theorem chk16_eq (t : Tar) : chk16 t = checkF t := by
  unfold chk16 checkF tarF
  by_cases h : wordF t.name = true ∧ 1 ≤ t.for_ ∧ t.for_ ≤ 6
  · rw [if_pos h, h.1, decide_eq_true h.2, Bool.true_and, Bool.true_and]
    cases ha : t.clauses.all clsOk with
    | false => rw [if_neg (by decide), goC_bad _ _ _ _ ha]
    | true =>
      rw [if_pos rfl]
      by_cases hr : t.name ∈ resW
      · rw [if_pos hr, show resF t.name = true from decide_eq_true hr, goC_true _ _ _ ha]
      · rw [if_neg hr, show resF t.name = false from decide_eq_false hr]
        exact (goC_16 _ _ _ _ ha fun s => ⟨.inl, fun h => h.elim id fun h => by cases h⟩).symm
  · rw [if_neg h, if_neg]
    intro h'
    simp only [Bool.and_eq_true, decide_eq_true_eq] at h'
    exact h ⟨h'.1.1, h'.1.2⟩
theorem c16_pure (t : Tar) (hs : SmallT t) : PureC E 19 [tarA t] (.int false .i64 (chk16 t)) := by
  refine pure_of_call E_ok (callOk_of E_ok Fc16_ok 400) ?_
  rw [cond_c16]
  rw [words_eq]
  simp only [bif_true, bif_false, bif_nt, bif_tf, bif_ft, beq_iff_eq, bne_iff_ne, beq_eq_false_iff_ne, bne_eq_false_iff_eq, decide_eq_true_eq, decide_eq_false_iff_not, Bool.or_eq_true, Bool.or_eq_false_iff, Bool.not_eq_true', Bool.not_eq_false', Bool.and_eq_true, Bool.and_true, Bool.true_and, Bool.and_eq_false_iff, beq_self_eq_true, mm2_max, mm2_min, ne_eq, and_true, true_and, Bool.true_eq_false, Bool.false_eq_true, false_or, or_false, true_implies, imp_self, Int.ofNat_eq_natCast, not_true_eq_false, not_false_eq_true, Decidable.not_not, List.getElem?_cons_zero, List.getElem?_cons_succ, Option.some.injEq, forall_eq', forall_eq, List.set_cons_zero, List.set_cons_succ, List.length_cons, List.length_nil, List.getD_cons_zero, List.getD_cons_succ, tn0, tn1, tn2, tn3, Int.le_refl, Nat.le_refl, Nat.reduceAdd, Int.reduceAdd, Int.reduceLE, Nat.reduceLeDiff, cn4, cn16, Ex.eta, List.take_succ_cons, List.take_zero, List.take_length, reduceCtorEq, Nat.zero_add, false_implies]
  refine ⟨⟨fun c hc => And.intro (by have := (hs.1 c hc).1; omega) (by have := (hs.1 c hc).2; omega), by have := hs.2; omega⟩, fun h => by unfold chk16; rw [h]; rfl, fun hf => ?_⟩
  have e1 : t.name ∈ resW → chk16 t = 161 := fun h => by unfold chk16; rw [if_pos hf, if_pos h]
  have e2 : ¬ t.name ∈ resW → chk16 t = go16 (decide (64 < t.clauses.length)) resW t.clauses := fun h => by unfold chk16; rw [if_pos hf, if_neg h]
  have r40 : resW.length = 40 := by decide
  have bs := hs.2
  refine ⟨fun z => z.k + z.r = 40 ∧ ∀ i, i < z.k → ∀ y, resW[i]? = some y → y ≠ t.name, ⟨⟨0, 40⟩, ⟨rfl, fun i h => absurd h (Nat.not_lt_zero _)⟩, rfl⟩, fun z hz => ⟨fun hk => ⟨And.intro (by omega) (by omega), by omega, fun y hy => ⟨fun hyn => ⟨fun _ => (e1 (by rw [← hyn]; exact List.mem_of_getElem? hy)).symm, fun h => absurd (by omega) h⟩, fun hyn => ⟨⟨z.k + 1, z.r - 1⟩, ⟨by dsimp only; omega, fun i hi y' hy' => ?_⟩, by dsimp only; omega, ?_⟩⟩⟩, fun hk => ?_⟩⟩
  · rw [Int.toNat_natCast] at hy
    rcases Nat.lt_succ_iff_lt_or_eq.1 hi with h | h
    · exact hz.2 i h y' hy'
    · rw [h, hy] at hy'; cases hy'; exact hyn
  · dsimp only
    exact (wr64 (by omega) (by omega)).trans (by omega)
  have hnn : ¬ t.name ∈ resW := fun h => by
    obtain ⟨i, hi⟩ := List.mem_iff_getElem?.1 h
    exact hz.2 i (by have := (List.getElem?_eq_some_iff.1 hi).1; omega) _ hi rfl
  rw [e2 hnn]
  clear e1 e2 hz hk
  generalize hV : go16 (decide (64 < t.clauses.length)) resW t.clauses = V
  refine And.intro (fun h64 => ⟨fun z => z.k + z.r = t.clauses.length ∧ z.W.length = 40 + z.k ∧ V = go16 z.d z.W (t.clauses.drop z.k), ⟨⟨0, t.clauses.length, true, resW⟩, ⟨Nat.zero_add _, r40, by rw [← hV, decide_eq_true (show 64 < t.clauses.length by omega)]; rfl⟩, ⟨r40.symm, rfl, rfl⟩, rfl⟩, fun z hz => ?_⟩)
    (fun h64 => ⟨fun z => z.k + z.r = t.clauses.length ∧ z.W.length = 40 + z.k ∧ V = go16 z.d z.W (t.clauses.drop z.k), ⟨⟨0, t.clauses.length, false, resW⟩, ⟨Nat.zero_add _, r40, by rw [← hV, decide_eq_false (show ¬ 64 < t.clauses.length by omega)]; rfl⟩, ⟨r40.symm, rfl, rfl⟩, rfl⟩, fun z hz => ?_⟩)
  all_goals
    obtain ⟨hz1, hz2, hz3⟩ := hz
    refine And.intro (fun hk => ⟨by omega, by omega, fun c hc => ?_⟩) (fun hk => ?_)
    · rw [Int.toNat_natCast] at hc
      have hcs := hs.1 c (List.mem_of_getElem? hc)
      have hd : go16 z.d z.W (t.clauses.drop z.k) = if c.name ∈ z.W then 161 else go16 (z.d || decide (8 < c.when_.length) || decide (24 < nestX c.pay)) (z.W ++ [c.name]) (t.clauses.drop (z.k + 1)) := by rw [drop_get hc, go16]
      refine ⟨fun y => y.k + y.r = z.W.length ∧ ∀ i, i < y.k → ∀ s, z.W[i]? = some s → s ≠ c.name, ⟨⟨0, z.W.length⟩, ⟨Nat.zero_add _, fun i h => absurd h (Nat.not_lt_zero _)⟩, rfl⟩, fun y hy => And.intro (fun hk2 => ⟨And.intro (by omega) (by omega), by omega, fun s hs' => And.intro (fun hsn => And.intro (fun _ => ?_) (fun h => absurd (by omega) h)) (fun hsn => ⟨⟨y.k + 1, y.r - 1⟩, ⟨by dsimp only; omega, fun i hi s' hs2 => ?_⟩, by dsimp only; omega, ?_⟩)⟩) (fun hk2 => ?_)⟩
      · rw [hz3, hd, if_pos (by rw [← hsn]; exact List.mem_of_getElem? hs')]
      · rw [Int.toNat_natCast] at hs'
        rcases Nat.lt_succ_iff_lt_or_eq.1 hi with h | h
        · exact hy.2 i h s' hs2
        · rw [h, hs'] at hs2; cases hs2; exact hsn
      · dsimp only
        exact (wr64 (by omega) (by omega)).trans (by omega)
      have hnin : ¬ c.name ∈ z.W := fun h => by
        obtain ⟨i, hi⟩ := List.mem_iff_getElem?.1 h
        exact hy.2 i (by have := (List.getElem?_eq_some_iff.1 hi).1; omega) _ hi rfl
      rw [if_neg hnin] at hd
      have step : ∀ b, (z.d || decide (8 < c.when_.length) || decide (24 < nestX c.pay)) = b → ∃ x5 : C16X, (x5.k + x5.r = t.clauses.length ∧ x5.W.length = 40 + x5.k ∧ V = go16 x5.d x5.W (t.clauses.drop x5.k)) ∧ x5.r + 1 ≤ z.r ∧ (z.W.length + 1 = x5.W.length ∧ b = x5.d ∧ wr IntKind.i64 ((z.k : Int) + 1) = (x5.k : Int)) ∧ z.W ++ [c.name] = x5.W := fun b hb => by
        refine ⟨⟨z.k + 1, z.r - 1, b, z.W ++ [c.name]⟩, ⟨by dsimp only; omega, by dsimp only; rw [List.length_append, hz2, List.length_singleton, Nat.add_assoc], by rw [hz3, hd, hb]⟩, by dsimp only; omega, ⟨by rw [List.length_append, List.length_singleton], rfl, ?_⟩, rfl⟩
        dsimp only
        exact (wr64 (by omega) (by omega)).trans (by omega)
      refine And.intro (And.intro (by omega) (by omega)) (And.intro (fun hdt => step true (by rw [hdt]; simp)) (fun hdf => And.intro (fun h8 => step true (by rw [hdf, decide_eq_true (show 8 < c.when_.length by omega)]; simp)) (fun h8 => And.intro (by omega) (And.intro (fun h24 => step true (by rw [decide_eq_true (show 24 < nestX c.pay by omega)]; simp)) (fun h24 => step false (by rw [hdf, decide_eq_false (show ¬ 8 < c.when_.length by omega), decide_eq_false (show ¬ 24 < nestX c.pay by omega)]; rfl))))))
    · rw [List.drop_of_length_le (by omega)] at hz3
      refine And.intro (fun h => ?_) (fun h => ?_)
      · rw [hz3, h]; rfl
      · rw [hz3, h]; rfl
end Go.Proofs.YtpllflefaccmkaaGreatDoor

/- Chapter 17: the reference's Check of units; the law of the two Checks. -/
namespace Go.Proofs.YtpllflefaccmkaaGreatDoor
open Go
set_option linter.unusedVariables false
set_option linter.unusedSimpArgs false
set_option maxRecDepth 100000
noncomputable def Sc16 : Sum thy := sumP dTar (fun x => SmallT x.1) fun x => .int false .i64 (checkF x.1)
theorem Sc16_ok : SumOk E 19 Sc16 := sumP_ok E_ok (good_of (f := 19) rfl) fun x h => by have := c16_pure _ h; rw [chk16_eq] at this; exact this
noncomputable def SUnitG : Sum thy := sumFY E (fun _ => none) 10 dExp (fun x => x.1.sz < 1000000000) (fun x => unitP x.1) errV
theorem SUnitG_ok : SumOk E 20 SUnitG := sumFY_ok E_ok (good_of (f := 20) rfl) fun x h => Unit17_pure _ h
noncomputable def Ac17 : Fr thy → Hp thy → Nat → Ann thy := fun T h i => { X := KX, fr := fun x => [(1, T 1), (5, .int false .i64 x.k)], bl := fun x => blkP h (T 1), src := fun _ => [], md := [], ih := i, M := i + 60, meas := fun x => x.r }
noncomputable def Fc17 : Fns thy := addL (addS (addS F0 19 Sc16) 20 SUnitG) 8 5 Ac17 E
theorem Fc17_ok : FnsOk E Fc17 := addL_ok E_ok (addS_ok (addS_ok F0_ok Sc16_ok) SUnitG_ok) _ _ _
--@cond c17 | 8 | Fc17 | 400 | (t : Tar) | [tarA t] | (p : Int × Int) | intV p
theorem cond_c17 (t : Tar) (p : Int × Int) : callF E Fc17 (vc E Fc17 400) 8 [tarA t] hp0 0 (fun r => ret E (patch hp0 0 r) r.v (intV p)) = (
  ((∀ (c : Cls), c ∈ Tar.clauses t → Ex.sz (Cls.pay c) + (1 : Nat) ≤ (1000000000 : Nat) ∧ List.length (Cls.when_ c) + (1 : Nat) ≤ (1000000000000 : Nat)) ∧ List.length (Tar.clauses t)
  + (1 : Nat) ≤ (1000000000000 : Nat)) ∧ ((checkF t != (0 : Int)) = true → (0 : Int) = Prod.fst p ∧ checkF t = Prod.snd p ∧ True) ∧ ((checkF t != (0 : Int)) = false → ∃ (R : KX →
  Prop), (∃ (x : KX), R x ∧ true = true ∧ ((0 : Nat) = (0 : Nat) ∧ (0 : Int) = (↑(KX.k x) : Int) ∧ True) ∧ (Tar.name t = Tar.name t ∧ Tar.for_ t = Tar.for_ t ∧ (Tar.clauses t =
  Tar.clauses t ∧ (false = true → false = true)) ∧ True) ∧ True) ∧ ∀ (x : KX), R x → (decide ((↑(KX.k x) : Int) < (↑(List.length (Tar.clauses t)) : Int)) = true → (0 : Int) ≤ (↑(KX.k
  x) : Int) ∧ (↑(KX.k x) : Int) + (1 : Int) ≤ (↑(List.length (Tar.clauses t)) : Int) ∧ ∀ (x_1 : Cls), (Tar.clauses t)[Int.toNat (↑(KX.k x) : Int)]? = some x_1 → Ex.sz (Ex.mk (Ex.op
  (Cls.pay x_1)) (Ex.n (Cls.pay x_1)) (Ex.d0 (Cls.pay x_1)) (Ex.d1 (Cls.pay x_1)) (Ex.d2 (Cls.pay x_1)) (Ex.d3 (Cls.pay x_1)) (Ex.l (Cls.pay x_1))) + (1 : Nat) ≤ (1000000000 : Nat) ∧
  ∀ (y : List Int × Int), y = unitP (Ex.mk (Ex.op (Cls.pay x_1)) (Ex.n (Cls.pay x_1)) (Ex.d0 (Cls.pay x_1)) (Ex.d1 (Cls.pay x_1)) (Ex.d2 (Cls.pay x_1)) (Ex.d3 (Cls.pay x_1)) (Ex.l
  (Cls.pay x_1))) → (4 : Nat) = (4 : Nat) ∧ ((Prod.snd y != (0 : Int)) = true → (↑(KX.k x) : Int) = Prod.fst p ∧ (170 : Int) = Prod.snd p ∧ True) ∧ ((Prod.snd y != (0 : Int)) = false
  → (4 : Nat) = (4 : Nat) ∧ (4 : Nat) = (4 : Nat) ∧ (4 : Nat) = (4 : Nat) ∧ ((!(List.getD (Prod.fst y) (0 : Nat) (0 : Int) == (1 : Int) && (List.getD (Prod.fst y) (1 : Nat) (0 : Int)
  == (0 : Int) && (List.getD (Prod.fst y) (2 : Nat) (0 : Int) == (0 : Int) && (List.getD (Prod.fst y) (3 : Nat) (0 : Int) == (0 : Int) && true))))) = true → (↑(KX.k x) : Int) =
  Prod.fst p ∧ (170 : Int) = Prod.snd p ∧ True) ∧ ((!(List.getD (Prod.fst y) (0 : Nat) (0 : Int) == (1 : Int) && (List.getD (Prod.fst y) (1 : Nat) (0 : Int) == (0 : Int) &&
  (List.getD (Prod.fst y) (2 : Nat) (0 : Int) == (0 : Int) && (List.getD (Prod.fst y) (3 : Nat) (0 : Int) == (0 : Int) && true))))) = false → ∃ (x_2 : KX), R x_2 ∧ x_2.2 + (1 : Nat)
  ≤ x.2 ∧ true = true ∧ ((0 : Nat) = (0 : Nat) ∧ wr IntKind.i64 ((↑(KX.k x) : Int) + (1 : Int)) = (↑(KX.k x_2) : Int) ∧ True) ∧ (Tar.name t = Tar.name t ∧ Tar.for_ t = Tar.for_ t ∧
  (Tar.clauses t = Tar.clauses t ∧ (false = true → false = true)) ∧ True) ∧ True))) ∧ (decide ((↑(KX.k x) : Int) < (↑(List.length (Tar.clauses t)) : Int)) = false → (0 : Int) =
  Prod.fst p ∧ (0 : Int) = Prod.snd p ∧ True))
  ) := by kernel_rfl
--@end
theorem c17_pure (t : Tar) (hs : SmallT t) : PureC E 8 [tarA t] (intV (chkP t)) := by
  refine pure_of_call E_ok (callOk_of E_ok Fc17_ok 400) ?_
  rw [cond_c17]
  simp only [bif_true, bif_false, bif_nt, bif_tf, bif_ft, beq_iff_eq, bne_iff_ne, beq_eq_false_iff_ne, bne_eq_false_iff_eq, decide_eq_true_eq, decide_eq_false_iff_not, Bool.or_eq_true, Bool.or_eq_false_iff, Bool.not_eq_true', Bool.not_eq_false', Bool.and_eq_true, Bool.and_true, Bool.true_and, Bool.and_eq_false_iff, beq_self_eq_true, mm2_max, mm2_min, ne_eq, and_true, true_and, Bool.true_eq_false, Bool.false_eq_true, false_or, or_false, true_implies, imp_self, Int.ofNat_eq_natCast, not_true_eq_false, not_false_eq_true, Decidable.not_not, List.getElem?_cons_zero, List.getElem?_cons_succ, Option.some.injEq, forall_eq', forall_eq, List.set_cons_zero, List.set_cons_succ, List.length_cons, List.length_nil, List.getD_cons_zero, List.getD_cons_succ, tn0, tn1, tn2, tn3, Int.le_refl, Nat.le_refl, Nat.reduceAdd, Int.reduceAdd, Int.reduceLE, Nat.reduceLeDiff, cn4, cn16, Ex.eta]
  have hs' := hs
  obtain ⟨hs1, hs2⟩ := hs'
  refine ⟨⟨fun c hc => And.intro (by have := (hs1 c hc).1; omega) (by have := (hs1 c hc).2; omega), by omega⟩, fun h => fst_snd (by unfold chkP; rw [if_neg h]), fun h => ?_⟩
  have e : chkP t = goU 0 t.clauses := by unfold chkP; rw [if_pos h]
  refine ⟨fun x => x.k + x.r = t.clauses.length ∧ chkP t = goU x.k (t.clauses.drop x.k), ⟨⟨0, t.clauses.length⟩, ⟨Nat.zero_add _, by rw [e]; rfl⟩, rfl⟩, fun x hx => ⟨fun hk => ⟨by omega, by omega, fun c hc => ?_⟩, fun hk => ?_⟩⟩
  · rw [Int.toNat_natCast] at hc
    have hm := List.mem_of_getElem? hc
    have hf := checkF_ok h c hm
    have hd := goU_drop hc
    have hc2 := (hs1 c hm).1
    rw [unitP_of hf]
    refine And.intro (by omega) ?_
    cases hdd : unitX c.pay with
    | none =>
      refine And.intro (fun _ => fst_snd (by rw [hx.2, hd, hdd, if_neg (by simp)])) (fun h => by simp [okP] at h)
    | some d =>
      obtain ⟨a0, a1, a2, a3, rfl, _⟩ := unitX_3 c.pay hf hdd
      rw [hdd] at hd
      simp only [okP, List.getD_cons_zero, List.getD_cons_succ]
      refine And.intro (fun h => absurd trivial h) (fun _ => And.intro (fun hn => fst_snd (by
        have hne : ¬ some [a0, a1, a2, a3] = some [(1 : Int), 0, 0, 0] := fun he => by
          simp only [Option.some.injEq, List.cons.injEq, and_true] at he
          omega
        rw [hx.2, hd, if_neg hne])) (fun hy => ⟨⟨x.k + 1, x.r - 1⟩, ⟨by dsimp only; omega, ?_⟩, by dsimp only; omega, ?_⟩))
      · rw [hx.2, hd, if_pos (by rw [hy.1, hy.2.1, hy.2.2.1, hy.2.2.2])]
      · dsimp only
        exact (wr64 (by omega) (by omega)).trans (by omega)
  · exact fst_snd (by rw [hx.2, List.drop_of_length_le (by omega)]; rfl)
noncomputable def Stck17 : Sum thy := sumPY dTar (fun x => SmallT x.1) (fun x => chkP x.1) intV
noncomputable def Fcm : Fns thy := addS (addS (addS (addS F0 5 Ssane) 6 Sfew) 7 Stck) 8 Stck17
theorem Stck17_ok : SumOk E 8 Stck17 := sumPY_ok E_ok (good_of (f := 8) rfl) fun x h => c17_pure _ h
theorem Fcm_ok : FnsOk E Fcm := addS_ok (addS_ok (addS_ok (addS_ok F0_ok Ssane_ok) Sfew_ok) Stck_ok) Stck17_ok
--@cond cm | 3 | Fcm | 400 | (t : Tar) | [tarA t] | (b : Bool) | .bool false b
theorem cond_cm (t : Tar) (b : Bool) : callF E Fcm (vc E Fcm 400) 3 [tarA t] hp0 0 (fun r => ret E (patch hp0 0 r) r.v (.bool false b)) = (
  True ∧ ((!true) = true → false = b) ∧ ((!true) = false → True ∧ ((!fewF t) = true → true = b) ∧ ((!fewF t) = false → ((∀ (c : Cls), c ∈ Tar.clauses t → Ex.sz (Cls.pay c) + (1 :
  Nat) ≤ (1000000000 : Nat) ∧ List.length (Cls.when_ c) + (1 : Nat) ≤ (1000000000000 : Nat)) ∧ List.length (Tar.clauses t) + (1 : Nat) ≤ (1000000000000 : Nat)) ∧ ∀ (y : Int × Int), y
  = chkP t → ((∀ (c : Cls), c ∈ Tar.clauses t → Ex.sz (Cls.pay c) + (1 : Nat) ≤ (1000000000 : Nat) ∧ List.length (Cls.when_ c) + (1 : Nat) ≤ (1000000000000 : Nat)) ∧ List.length
  (Tar.clauses t) + (1 : Nat) ≤ (1000000000000 : Nat)) ∧ ∀ (y_1 : Int × Int), y_1 = chkP t → ((Prod.fst y == Prod.fst y_1) = true → ((Prod.snd y == Prod.snd y_1) = true → true = b) ∧
  ((Prod.snd y == Prod.snd y_1) = false → false = b)) ∧ ((Prod.fst y == Prod.fst y_1) = false → false = b)))
  ) := by kernel_rfl
--@end
theorem cm_pure (t : Tar) : PureC E 3 [tarA t] (.bool false true) := by
  refine pure_of_call E_ok (callOk_of E_ok Fcm_ok 400) ?_
  rw [cond_cm]
  simp only [bif_true, bif_false, bif_nt, bif_tf, bif_ft, beq_iff_eq, bne_iff_ne, beq_eq_false_iff_ne, bne_eq_false_iff_eq, decide_eq_true_eq, decide_eq_false_iff_not, Bool.or_eq_true, Bool.or_eq_false_iff, Bool.not_eq_true', Bool.not_eq_false', Bool.and_eq_true, Bool.and_true, Bool.true_and, Bool.and_eq_false_iff, beq_self_eq_true, mm2_max, mm2_min, ne_eq, and_true, true_and, Bool.true_eq_false, Bool.false_eq_true, false_or, or_false, true_implies, imp_self, Int.ofNat_eq_natCast, not_true_eq_false, not_false_eq_true, Decidable.not_not, List.getElem?_cons_zero, List.getElem?_cons_succ, Option.some.injEq, forall_eq', forall_eq, List.set_cons_zero, List.set_cons_succ, List.length_cons, List.length_nil, List.getD_cons_zero, List.getD_cons_succ, tn0, tn1, tn2, tn3, Int.le_refl, Nat.le_refl, Nat.reduceAdd, Int.reduceAdd, Int.reduceLE, Nat.reduceLeDiff, cn4, cn16, Ex.eta]
  refine ⟨fun _ => trivial, fun hfew => ?_⟩
  obtain ⟨hsm, hl66, hs60⟩ := few_small hfew
  have hsm' : (∀ (c : Cls), c ∈ t.clauses → c.pay.sz ≤ 999999999 ∧ c.when_.length ≤ 999999999999) ∧ t.clauses.length ≤ 999999999999 := ⟨fun c hc => And.intro (by have := (hsm.1 c hc).1; omega) (by have := (hsm.1 c hc).2; omega), by omega⟩
  exact ⟨hsm', hsm'⟩
end Go.Proofs.YtpllflefaccmkaaGreatDoor
