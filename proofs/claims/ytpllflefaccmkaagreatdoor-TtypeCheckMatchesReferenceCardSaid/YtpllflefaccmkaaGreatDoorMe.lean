/- Merged texts: TtJ, TtK, TtM, TtN, TtR, TtB, EngZI, TtC, TtL, TtP, TtU, TtV. -/
import Derived.Test.YtpllflefaccmkaaGreatDoorMd
/- Chapter 17: units of expressions. -/
namespace Go.Proofs.YtpllflefaccmkaaGreatDoor
open Go
set_option linter.unusedVariables false
set_option linter.unusedSimpArgs false
set_option maxRecDepth 100000
noncomputable def dDims : Dc E (List (List Int)) := (dList (E := E) Th.dims : Dc E (List (thy.dom Th.dims)))
/-- the number that a rule has kept -/
def dPow : Dc E Int where
  dec v := match v with | .pptr Th.ints n 0 => some n | _ => none
  enc n := .pptr Th.ints n 0
  ok v a h := by
    split at h
    · cases h; exact ⟨rfl, rfl, fun _ _ _ h => h⟩
    · cases h
def dimV (d : List Int) : SV thy := .agg (encF false .dims d)
def optV (o : Option (List Int)) : SV thy := .tup [dimV (o.getD [0, 0, 0, 0]), .bool false o.isSome]
--@cond pow | 71 | F0 | 2000 | (ds : List (List Int)) (n : Int) | [.psl Th.dims ds false, .pptr Th.ints n 0] | (d : List Int) (b : Bool) | .tup [dimV d, .bool false b]
theorem cond_pow (ds : List (List Int)) (n : Int) (d : List Int) (b : Bool) : callF E F0 (vc E F0 2000) 71 [.psl Th.dims ds false, .pptr Th.ints n 0] hp0 0 (fun r => ret E (patch hp0 0 r) r.v (.tup [dimV d, .bool false b])) = (
  (0 : Int) ≤ (0 : Int) ∧ (0 : Int) + (1 : Int) ≤ (↑(List.length ds) : Int) ∧ ∀ (x : List Int), ds[Int.toNat (0 : Int)]? = some x → (0 : Int) ≤ (1 : Int) ∧ (1 : Int) + (1 : Int) ≤
  (↑(List.length ds) : Int) ∧ ∀ (x_1 : List Int), ds[Int.toNat (1 : Int)]? = some x_1 → ((0 : Int) ≤ (0 : Int) ∧ (0 : Int) + (1 : Int) ≤ (↑(4 : Nat) : Int)) ∧ (0 : Nat) ≤ Int.toNat
  (0 : Int) ∧ Int.toNat (0 : Int) + (1 : Nat) ≤ (4 : Nat) ∧ ∀ (x_2 : Int), [(0 : Int), (0 : Int), (0 : Int), (0 : Int)][Int.toNat (0 : Int)]? = some x_2 → ∃ (Q : Bool → Prop), (((0 :
  Int) ≤ (0 : Int) ∧ (0 : Int) + (1 : Int) ≤ (↑(4 : Nat) : Int)) ∧ Int.toNat (0 : Int) + (1 : Nat) ≤ List.length (List.set [(0 : Int), (0 : Int), (0 : Int), (0 : Int)] (Int.toNat (0
  : Int)) (wr IntKind.i64 (List.getD x (0 : Nat) (0 : Int) + wr IntKind.i64 (n * List.getD x_1 (0 : Nat) (0 : Int))))) ∧ ∀ (x_3 : Int), (List.set [(0 : Int), (0 : Int), (0 : Int), (0
  : Int)] (Int.toNat (0 : Int)) (wr IntKind.i64 (List.getD x (0 : Nat) (0 : Int) + wr IntKind.i64 (n * List.getD x_1 (0 : Nat) (0 : Int)))))[Int.toNat (0 : Int)]? = some x_3 →
  (decide (x_3 < (-3 : Int)) = true → Q true) ∧ (decide (x_3 < (-3 : Int)) = false → ((0 : Int) ≤ (0 : Int) ∧ (0 : Int) + (1 : Int) ≤ (↑(4 : Nat) : Int)) ∧ Int.toNat (0 : Int) + (1 :
  Nat) ≤ List.length (List.set [(0 : Int), (0 : Int), (0 : Int), (0 : Int)] (Int.toNat (0 : Int)) (wr IntKind.i64 (List.getD x (0 : Nat) (0 : Int) + wr IntKind.i64 (n * List.getD x_1
  (0 : Nat) (0 : Int))))) ∧ ∀ (x_4 : Int), (List.set [(0 : Int), (0 : Int), (0 : Int), (0 : Int)] (Int.toNat (0 : Int)) (wr IntKind.i64 (List.getD x (0 : Nat) (0 : Int) + wr
  IntKind.i64 (n * List.getD x_1 (0 : Nat) (0 : Int)))))[Int.toNat (0 : Int)]? = some x_4 → (decide (x_4 > (3 : Int)) = true → Q true) ∧ (decide (x_4 > (3 : Int)) = false → Q
  false))) ∧ (Q true → List.length (List.set [(0 : Int), (0 : Int), (0 : Int), (0 : Int)] (Int.toNat (0 : Int)) (wr IntKind.i64 (List.getD x (0 : Nat) (0 : Int) + wr IntKind.i64 (n *
  List.getD x_1 (0 : Nat) (0 : Int))))) = (4 : Nat) ∧ (4 : Nat) = (4 : Nat) ∧ (List.getD [(0 : Int), (0 : Int), (0 : Int), (0 : Int)] (0 : Nat) (0 : Int) = List.getD d (0 : Nat) (0 :
  Int) ∧ List.getD [(0 : Int), (0 : Int), (0 : Int), (0 : Int)] (1 : Nat) (0 : Int) = List.getD d (1 : Nat) (0 : Int) ∧ List.getD [(0 : Int), (0 : Int), (0 : Int), (0 : Int)] (2 :
  Nat) (0 : Int) = List.getD d (2 : Nat) (0 : Int) ∧ List.getD [(0 : Int), (0 : Int), (0 : Int), (0 : Int)] (3 : Nat) (0 : Int) = List.getD d (3 : Nat) (0 : Int) ∧ True) ∧ false = b
  ∧ True) ∧ (Q false → (0 : Int) ≤ (0 : Int) ∧ (0 : Int) + (1 : Int) ≤ (↑(List.length ds) : Int) ∧ ∀ (x_3 : List Int), ds[Int.toNat (0 : Int)]? = some x_3 → (0 : Int) ≤ (1 : Int) ∧
  (1 : Int) + (1 : Int) ≤ (↑(List.length ds) : Int) ∧ ∀ (x_4 : List Int), ds[Int.toNat (1 : Int)]? = some x_4 → ((0 : Int) ≤ (1 : Int) ∧ (1 : Int) + (1 : Int) ≤ (↑(4 : Nat) : Int)) ∧
  (0 : Nat) ≤ Int.toNat (1 : Int) ∧ Int.toNat (1 : Int) + (1 : Nat) ≤ List.length (List.set [(0 : Int), (0 : Int), (0 : Int), (0 : Int)] (Int.toNat (0 : Int)) (wr IntKind.i64
  (List.getD x (0 : Nat) (0 : Int) + wr IntKind.i64 (n * List.getD x_1 (0 : Nat) (0 : Int))))) ∧ ∀ (x_5 : Int), (List.set [(0 : Int), (0 : Int), (0 : Int), (0 : Int)] (Int.toNat (0 :
  Int)) (wr IntKind.i64 (List.getD x (0 : Nat) (0 : Int) + wr IntKind.i64 (n * List.getD x_1 (0 : Nat) (0 : Int)))))[Int.toNat (1 : Int)]? = some x_5 → ∃ (Q : Bool → Prop), (((0 :
  Int) ≤ (1 : Int) ∧ (1 : Int) + (1 : Int) ≤ (↑(4 : Nat) : Int)) ∧ Int.toNat (1 : Int) + (1 : Nat) ≤ List.length (List.set (List.set [(0 : Int), (0 : Int), (0 : Int), (0 : Int)]
  (Int.toNat (0 : Int)) (wr IntKind.i64 (List.getD x (0 : Nat) (0 : Int) + wr IntKind.i64 (n * List.getD x_1 (0 : Nat) (0 : Int))))) (Int.toNat (1 : Int)) (wr IntKind.i64 (List.getD
  x_3 (1 : Nat) (0 : Int) + wr IntKind.i64 (n * List.getD x_4 (1 : Nat) (0 : Int))))) ∧ ∀ (x_6 : Int), (List.set (List.set [(0 : Int), (0 : Int), (0 : Int), (0 : Int)] (Int.toNat (0
  : Int)) (wr IntKind.i64 (List.getD x (0 : Nat) (0 : Int) + wr IntKind.i64 (n * List.getD x_1 (0 : Nat) (0 : Int))))) (Int.toNat (1 : Int)) (wr IntKind.i64 (List.getD x_3 (1 : Nat)
  (0 : Int) + wr IntKind.i64 (n * List.getD x_4 (1 : Nat) (0 : Int)))))[Int.toNat (1 : Int)]? = some x_6 → (decide (x_6 < (-3 : Int)) = true → Q true) ∧ (decide (x_6 < (-3 : Int)) =
  false → ((0 : Int) ≤ (1 : Int) ∧ (1 : Int) + (1 : Int) ≤ (↑(4 : Nat) : Int)) ∧ Int.toNat (1 : Int) + (1 : Nat) ≤ List.length (List.set (List.set [(0 : Int), (0 : Int), (0 : Int),
  (0 : Int)] (Int.toNat (0 : Int)) (wr IntKind.i64 (List.getD x (0 : Nat) (0 : Int) + wr IntKind.i64 (n * List.getD x_1 (0 : Nat) (0 : Int))))) (Int.toNat (1 : Int)) (wr IntKind.i64
  (List.getD x_3 (1 : Nat) (0 : Int) + wr IntKind.i64 (n * List.getD x_4 (1 : Nat) (0 : Int))))) ∧ ∀ (x_7 : Int), (List.set (List.set [(0 : Int), (0 : Int), (0 : Int), (0 : Int)]
  (Int.toNat (0 : Int)) (wr IntKind.i64 (List.getD x (0 : Nat) (0 : Int) + wr IntKind.i64 (n * List.getD x_1 (0 : Nat) (0 : Int))))) (Int.toNat (1 : Int)) (wr IntKind.i64 (List.getD
  x_3 (1 : Nat) (0 : Int) + wr IntKind.i64 (n * List.getD x_4 (1 : Nat) (0 : Int)))))[Int.toNat (1 : Int)]? = some x_7 → (decide (x_7 > (3 : Int)) = true → Q true) ∧ (decide (x_7 >
  (3 : Int)) = false → Q false))) ∧ (Q true → List.length (List.set (List.set [(0 : Int), (0 : Int), (0 : Int), (0 : Int)] (Int.toNat (0 : Int)) (wr IntKind.i64 (List.getD x (0 :
  Nat) (0 : Int) + wr IntKind.i64 (n * List.getD x_1 (0 : Nat) (0 : Int))))) (Int.toNat (1 : Int)) (wr IntKind.i64 (List.getD x_3 (1 : Nat) (0 : Int) + wr IntKind.i64 (n * List.getD
  x_4 (1 : Nat) (0 : Int))))) = (4 : Nat) ∧ (4 : Nat) = (4 : Nat) ∧ (List.getD [(0 : Int), (0 : Int), (0 : Int), (0 : Int)] (0 : Nat) (0 : Int) = List.getD d (0 : Nat) (0 : Int) ∧
  List.getD [(0 : Int), (0 : Int), (0 : Int), (0 : Int)] (1 : Nat) (0 : Int) = List.getD d (1 : Nat) (0 : Int) ∧ List.getD [(0 : Int), (0 : Int), (0 : Int), (0 : Int)] (2 : Nat) (0 :
  Int) = List.getD d (2 : Nat) (0 : Int) ∧ List.getD [(0 : Int), (0 : Int), (0 : Int), (0 : Int)] (3 : Nat) (0 : Int) = List.getD d (3 : Nat) (0 : Int) ∧ True) ∧ false = b ∧ True) ∧
  (Q false → (0 : Int) ≤ (0 : Int) ∧ (0 : Int) + (1 : Int) ≤ (↑(List.length ds) : Int) ∧ ∀ (x_6 : List Int), ds[Int.toNat (0 : Int)]? = some x_6 → (0 : Int) ≤ (1 : Int) ∧ (1 : Int) +
  (1 : Int) ≤ (↑(List.length ds) : Int) ∧ ∀ (x_7 : List Int), ds[Int.toNat (1 : Int)]? = some x_7 → ((0 : Int) ≤ (2 : Int) ∧ (2 : Int) + (1 : Int) ≤ (↑(4 : Nat) : Int)) ∧ (0 : Nat) ≤
  Int.toNat (2 : Int) ∧ Int.toNat (2 : Int) + (1 : Nat) ≤ List.length (List.set (List.set [(0 : Int), (0 : Int), (0 : Int), (0 : Int)] (Int.toNat (0 : Int)) (wr IntKind.i64
  (List.getD x (0 : Nat) (0 : Int) + wr IntKind.i64 (n * List.getD x_1 (0 : Nat) (0 : Int))))) (Int.toNat (1 : Int)) (wr IntKind.i64 (List.getD x_3 (1 : Nat) (0 : Int) + wr
  IntKind.i64 (n * List.getD x_4 (1 : Nat) (0 : Int))))) ∧ ∀ (x_8 : Int), (List.set (List.set [(0 : Int), (0 : Int), (0 : Int), (0 : Int)] (Int.toNat (0 : Int)) (wr IntKind.i64
  (List.getD x (0 : Nat) (0 : Int) + wr IntKind.i64 (n * List.getD x_1 (0 : Nat) (0 : Int))))) (Int.toNat (1 : Int)) (wr IntKind.i64 (List.getD x_3 (1 : Nat) (0 : Int) + wr
  IntKind.i64 (n * List.getD x_4 (1 : Nat) (0 : Int)))))[Int.toNat (2 : Int)]? = some x_8 → ∃ (Q : Bool → Prop), (((0 : Int) ≤ (2 : Int) ∧ (2 : Int) + (1 : Int) ≤ (↑(4 : Nat) : Int))
  ∧ Int.toNat (2 : Int) + (1 : Nat) ≤ List.length (List.set (List.set (List.set [(0 : Int), (0 : Int), (0 : Int), (0 : Int)] (Int.toNat (0 : Int)) (wr IntKind.i64 (List.getD x (0 :
  Nat) (0 : Int) + wr IntKind.i64 (n * List.getD x_1 (0 : Nat) (0 : Int))))) (Int.toNat (1 : Int)) (wr IntKind.i64 (List.getD x_3 (1 : Nat) (0 : Int) + wr IntKind.i64 (n * List.getD
  x_4 (1 : Nat) (0 : Int))))) (Int.toNat (2 : Int)) (wr IntKind.i64 (List.getD x_6 (2 : Nat) (0 : Int) + wr IntKind.i64 (n * List.getD x_7 (2 : Nat) (0 : Int))))) ∧ ∀ (x_9 : Int),
  (List.set (List.set (List.set [(0 : Int), (0 : Int), (0 : Int), (0 : Int)] (Int.toNat (0 : Int)) (wr IntKind.i64 (List.getD x (0 : Nat) (0 : Int) + wr IntKind.i64 (n * List.getD
  x_1 (0 : Nat) (0 : Int))))) (Int.toNat (1 : Int)) (wr IntKind.i64 (List.getD x_3 (1 : Nat) (0 : Int) + wr IntKind.i64 (n * List.getD x_4 (1 : Nat) (0 : Int))))) (Int.toNat (2 :
  Int)) (wr IntKind.i64 (List.getD x_6 (2 : Nat) (0 : Int) + wr IntKind.i64 (n * List.getD x_7 (2 : Nat) (0 : Int)))))[Int.toNat (2 : Int)]? = some x_9 → (decide (x_9 < (-3 : Int)) =
  true → Q true) ∧ (decide (x_9 < (-3 : Int)) = false → ((0 : Int) ≤ (2 : Int) ∧ (2 : Int) + (1 : Int) ≤ (↑(4 : Nat) : Int)) ∧ Int.toNat (2 : Int) + (1 : Nat) ≤ List.length (List.set
  (List.set (List.set [(0 : Int), (0 : Int), (0 : Int), (0 : Int)] (Int.toNat (0 : Int)) (wr IntKind.i64 (List.getD x (0 : Nat) (0 : Int) + wr IntKind.i64 (n * List.getD x_1 (0 :
  Nat) (0 : Int))))) (Int.toNat (1 : Int)) (wr IntKind.i64 (List.getD x_3 (1 : Nat) (0 : Int) + wr IntKind.i64 (n * List.getD x_4 (1 : Nat) (0 : Int))))) (Int.toNat (2 : Int)) (wr
  IntKind.i64 (List.getD x_6 (2 : Nat) (0 : Int) + wr IntKind.i64 (n * List.getD x_7 (2 : Nat) (0 : Int))))) ∧ ∀ (x_10 : Int), (List.set (List.set (List.set [(0 : Int), (0 : Int), (0
  : Int), (0 : Int)] (Int.toNat (0 : Int)) (wr IntKind.i64 (List.getD x (0 : Nat) (0 : Int) + wr IntKind.i64 (n * List.getD x_1 (0 : Nat) (0 : Int))))) (Int.toNat (1 : Int)) (wr
  IntKind.i64 (List.getD x_3 (1 : Nat) (0 : Int) + wr IntKind.i64 (n * List.getD x_4 (1 : Nat) (0 : Int))))) (Int.toNat (2 : Int)) (wr IntKind.i64 (List.getD x_6 (2 : Nat) (0 : Int)
  + wr IntKind.i64 (n * List.getD x_7 (2 : Nat) (0 : Int)))))[Int.toNat (2 : Int)]? = some x_10 → (decide (x_10 > (3 : Int)) = true → Q true) ∧ (decide (x_10 > (3 : Int)) = false → Q
  false))) ∧ (Q true → List.length (List.set (List.set (List.set [(0 : Int), (0 : Int), (0 : Int), (0 : Int)] (Int.toNat (0 : Int)) (wr IntKind.i64 (List.getD x (0 : Nat) (0 : Int) +
  wr IntKind.i64 (n * List.getD x_1 (0 : Nat) (0 : Int))))) (Int.toNat (1 : Int)) (wr IntKind.i64 (List.getD x_3 (1 : Nat) (0 : Int) + wr IntKind.i64 (n * List.getD x_4 (1 : Nat) (0
  : Int))))) (Int.toNat (2 : Int)) (wr IntKind.i64 (List.getD x_6 (2 : Nat) (0 : Int) + wr IntKind.i64 (n * List.getD x_7 (2 : Nat) (0 : Int))))) = (4 : Nat) ∧ (4 : Nat) = (4 : Nat)
  ∧ (List.getD [(0 : Int), (0 : Int), (0 : Int), (0 : Int)] (0 : Nat) (0 : Int) = List.getD d (0 : Nat) (0 : Int) ∧ List.getD [(0 : Int), (0 : Int), (0 : Int), (0 : Int)] (1 : Nat)
  (0 : Int) = List.getD d (1 : Nat) (0 : Int) ∧ List.getD [(0 : Int), (0 : Int), (0 : Int), (0 : Int)] (2 : Nat) (0 : Int) = List.getD d (2 : Nat) (0 : Int) ∧ List.getD [(0 : Int),
  (0 : Int), (0 : Int), (0 : Int)] (3 : Nat) (0 : Int) = List.getD d (3 : Nat) (0 : Int) ∧ True) ∧ false = b ∧ True) ∧ (Q false → (0 : Int) ≤ (0 : Int) ∧ (0 : Int) + (1 : Int) ≤
  (↑(List.length ds) : Int) ∧ ∀ (x_9 : List Int), ds[Int.toNat (0 : Int)]? = some x_9 → (0 : Int) ≤ (1 : Int) ∧ (1 : Int) + (1 : Int) ≤ (↑(List.length ds) : Int) ∧ ∀ (x_10 : List
  Int), ds[Int.toNat (1 : Int)]? = some x_10 → ((0 : Int) ≤ (3 : Int) ∧ (3 : Int) + (1 : Int) ≤ (↑(4 : Nat) : Int)) ∧ (0 : Nat) ≤ Int.toNat (3 : Int) ∧ Int.toNat (3 : Int) + (1 :
  Nat) ≤ List.length (List.set (List.set (List.set [(0 : Int), (0 : Int), (0 : Int), (0 : Int)] (Int.toNat (0 : Int)) (wr IntKind.i64 (List.getD x (0 : Nat) (0 : Int) + wr
  IntKind.i64 (n * List.getD x_1 (0 : Nat) (0 : Int))))) (Int.toNat (1 : Int)) (wr IntKind.i64 (List.getD x_3 (1 : Nat) (0 : Int) + wr IntKind.i64 (n * List.getD x_4 (1 : Nat) (0 :
  Int))))) (Int.toNat (2 : Int)) (wr IntKind.i64 (List.getD x_6 (2 : Nat) (0 : Int) + wr IntKind.i64 (n * List.getD x_7 (2 : Nat) (0 : Int))))) ∧ ∀ (x_11 : Int), (List.set (List.set
  (List.set [(0 : Int), (0 : Int), (0 : Int), (0 : Int)] (Int.toNat (0 : Int)) (wr IntKind.i64 (List.getD x (0 : Nat) (0 : Int) + wr IntKind.i64 (n * List.getD x_1 (0 : Nat) (0 :
  Int))))) (Int.toNat (1 : Int)) (wr IntKind.i64 (List.getD x_3 (1 : Nat) (0 : Int) + wr IntKind.i64 (n * List.getD x_4 (1 : Nat) (0 : Int))))) (Int.toNat (2 : Int)) (wr IntKind.i64
  (List.getD x_6 (2 : Nat) (0 : Int) + wr IntKind.i64 (n * List.getD x_7 (2 : Nat) (0 : Int)))))[Int.toNat (3 : Int)]? = some x_11 → ∃ (Q : Bool → Prop), (((0 : Int) ≤ (3 : Int) ∧ (3
  : Int) + (1 : Int) ≤ (↑(4 : Nat) : Int)) ∧ Int.toNat (3 : Int) + (1 : Nat) ≤ List.length (List.set (List.set (List.set (List.set [(0 : Int), (0 : Int), (0 : Int), (0 : Int)]
  (Int.toNat (0 : Int)) (wr IntKind.i64 (List.getD x (0 : Nat) (0 : Int) + wr IntKind.i64 (n * List.getD x_1 (0 : Nat) (0 : Int))))) (Int.toNat (1 : Int)) (wr IntKind.i64 (List.getD
  x_3 (1 : Nat) (0 : Int) + wr IntKind.i64 (n * List.getD x_4 (1 : Nat) (0 : Int))))) (Int.toNat (2 : Int)) (wr IntKind.i64 (List.getD x_6 (2 : Nat) (0 : Int) + wr IntKind.i64 (n *
  List.getD x_7 (2 : Nat) (0 : Int))))) (Int.toNat (3 : Int)) (wr IntKind.i64 (List.getD x_9 (3 : Nat) (0 : Int) + wr IntKind.i64 (n * List.getD x_10 (3 : Nat) (0 : Int))))) ∧ ∀
  (x_12 : Int), (List.set (List.set (List.set (List.set [(0 : Int), (0 : Int), (0 : Int), (0 : Int)] (Int.toNat (0 : Int)) (wr IntKind.i64 (List.getD x (0 : Nat) (0 : Int) + wr
  IntKind.i64 (n * List.getD x_1 (0 : Nat) (0 : Int))))) (Int.toNat (1 : Int)) (wr IntKind.i64 (List.getD x_3 (1 : Nat) (0 : Int) + wr IntKind.i64 (n * List.getD x_4 (1 : Nat) (0 :
  Int))))) (Int.toNat (2 : Int)) (wr IntKind.i64 (List.getD x_6 (2 : Nat) (0 : Int) + wr IntKind.i64 (n * List.getD x_7 (2 : Nat) (0 : Int))))) (Int.toNat (3 : Int)) (wr IntKind.i64
  (List.getD x_9 (3 : Nat) (0 : Int) + wr IntKind.i64 (n * List.getD x_10 (3 : Nat) (0 : Int)))))[Int.toNat (3 : Int)]? = some x_12 → (decide (x_12 < (-3 : Int)) = true → Q true) ∧
  (decide (x_12 < (-3 : Int)) = false → ((0 : Int) ≤ (3 : Int) ∧ (3 : Int) + (1 : Int) ≤ (↑(4 : Nat) : Int)) ∧ Int.toNat (3 : Int) + (1 : Nat) ≤ List.length (List.set (List.set
  (List.set (List.set [(0 : Int), (0 : Int), (0 : Int), (0 : Int)] (Int.toNat (0 : Int)) (wr IntKind.i64 (List.getD x (0 : Nat) (0 : Int) + wr IntKind.i64 (n * List.getD x_1 (0 :
  Nat) (0 : Int))))) (Int.toNat (1 : Int)) (wr IntKind.i64 (List.getD x_3 (1 : Nat) (0 : Int) + wr IntKind.i64 (n * List.getD x_4 (1 : Nat) (0 : Int))))) (Int.toNat (2 : Int)) (wr
  IntKind.i64 (List.getD x_6 (2 : Nat) (0 : Int) + wr IntKind.i64 (n * List.getD x_7 (2 : Nat) (0 : Int))))) (Int.toNat (3 : Int)) (wr IntKind.i64 (List.getD x_9 (3 : Nat) (0 : Int)
  + wr IntKind.i64 (n * List.getD x_10 (3 : Nat) (0 : Int))))) ∧ ∀ (x_13 : Int), (List.set (List.set (List.set (List.set [(0 : Int), (0 : Int), (0 : Int), (0 : Int)] (Int.toNat (0 :
  Int)) (wr IntKind.i64 (List.getD x (0 : Nat) (0 : Int) + wr IntKind.i64 (n * List.getD x_1 (0 : Nat) (0 : Int))))) (Int.toNat (1 : Int)) (wr IntKind.i64 (List.getD x_3 (1 : Nat) (0
  : Int) + wr IntKind.i64 (n * List.getD x_4 (1 : Nat) (0 : Int))))) (Int.toNat (2 : Int)) (wr IntKind.i64 (List.getD x_6 (2 : Nat) (0 : Int) + wr IntKind.i64 (n * List.getD x_7 (2 :
  Nat) (0 : Int))))) (Int.toNat (3 : Int)) (wr IntKind.i64 (List.getD x_9 (3 : Nat) (0 : Int) + wr IntKind.i64 (n * List.getD x_10 (3 : Nat) (0 : Int)))))[Int.toNat (3 : Int)]? =
  some x_13 → (decide (x_13 > (3 : Int)) = true → Q true) ∧ (decide (x_13 > (3 : Int)) = false → Q false))) ∧ (Q true → List.length (List.set (List.set (List.set (List.set [(0 :
  Int), (0 : Int), (0 : Int), (0 : Int)] (Int.toNat (0 : Int)) (wr IntKind.i64 (List.getD x (0 : Nat) (0 : Int) + wr IntKind.i64 (n * List.getD x_1 (0 : Nat) (0 : Int))))) (Int.toNat
  (1 : Int)) (wr IntKind.i64 (List.getD x_3 (1 : Nat) (0 : Int) + wr IntKind.i64 (n * List.getD x_4 (1 : Nat) (0 : Int))))) (Int.toNat (2 : Int)) (wr IntKind.i64 (List.getD x_6 (2 :
  Nat) (0 : Int) + wr IntKind.i64 (n * List.getD x_7 (2 : Nat) (0 : Int))))) (Int.toNat (3 : Int)) (wr IntKind.i64 (List.getD x_9 (3 : Nat) (0 : Int) + wr IntKind.i64 (n * List.getD
  x_10 (3 : Nat) (0 : Int))))) = (4 : Nat) ∧ (4 : Nat) = (4 : Nat) ∧ (List.getD [(0 : Int), (0 : Int), (0 : Int), (0 : Int)] (0 : Nat) (0 : Int) = List.getD d (0 : Nat) (0 : Int) ∧
  List.getD [(0 : Int), (0 : Int), (0 : Int), (0 : Int)] (1 : Nat) (0 : Int) = List.getD d (1 : Nat) (0 : Int) ∧ List.getD [(0 : Int), (0 : Int), (0 : Int), (0 : Int)] (2 : Nat) (0 :
  Int) = List.getD d (2 : Nat) (0 : Int) ∧ List.getD [(0 : Int), (0 : Int), (0 : Int), (0 : Int)] (3 : Nat) (0 : Int) = List.getD d (3 : Nat) (0 : Int) ∧ True) ∧ false = b ∧ True) ∧
  (Q false → List.length (List.set (List.set (List.set (List.set [(0 : Int), (0 : Int), (0 : Int), (0 : Int)] (Int.toNat (0 : Int)) (wr IntKind.i64 (List.getD x (0 : Nat) (0 : Int) +
  wr IntKind.i64 (n * List.getD x_1 (0 : Nat) (0 : Int))))) (Int.toNat (1 : Int)) (wr IntKind.i64 (List.getD x_3 (1 : Nat) (0 : Int) + wr IntKind.i64 (n * List.getD x_4 (1 : Nat) (0
  : Int))))) (Int.toNat (2 : Int)) (wr IntKind.i64 (List.getD x_6 (2 : Nat) (0 : Int) + wr IntKind.i64 (n * List.getD x_7 (2 : Nat) (0 : Int))))) (Int.toNat (3 : Int)) (wr
  IntKind.i64 (List.getD x_9 (3 : Nat) (0 : Int) + wr IntKind.i64 (n * List.getD x_10 (3 : Nat) (0 : Int))))) = (4 : Nat) ∧ List.length (List.set (List.set (List.set (List.set [(0 :
  Int), (0 : Int), (0 : Int), (0 : Int)] (Int.toNat (0 : Int)) (wr IntKind.i64 (List.getD x (0 : Nat) (0 : Int) + wr IntKind.i64 (n * List.getD x_1 (0 : Nat) (0 : Int))))) (Int.toNat
  (1 : Int)) (wr IntKind.i64 (List.getD x_3 (1 : Nat) (0 : Int) + wr IntKind.i64 (n * List.getD x_4 (1 : Nat) (0 : Int))))) (Int.toNat (2 : Int)) (wr IntKind.i64 (List.getD x_6 (2 :
  Nat) (0 : Int) + wr IntKind.i64 (n * List.getD x_7 (2 : Nat) (0 : Int))))) (Int.toNat (3 : Int)) (wr IntKind.i64 (List.getD x_9 (3 : Nat) (0 : Int) + wr IntKind.i64 (n * List.getD
  x_10 (3 : Nat) (0 : Int))))) = (4 : Nat) ∧ (4 : Nat) = (4 : Nat) ∧ (List.getD [List.getD (List.set (List.set (List.set (List.set [(0 : Int), (0 : Int), (0 : Int), (0 : Int)]
  (Int.toNat (0 : Int)) (wr IntKind.i64 (List.getD x (0 : Nat) (0 : Int) + wr IntKind.i64 (n * List.getD x_1 (0 : Nat) (0 : Int))))) (Int.toNat (1 : Int)) (wr IntKind.i64 (List.getD
  x_3 (1 : Nat) (0 : Int) + wr IntKind.i64 (n * List.getD x_4 (1 : Nat) (0 : Int))))) (Int.toNat (2 : Int)) (wr IntKind.i64 (List.getD x_6 (2 : Nat) (0 : Int) + wr IntKind.i64 (n *
  List.getD x_7 (2 : Nat) (0 : Int))))) (Int.toNat (3 : Int)) (wr IntKind.i64 (List.getD x_9 (3 : Nat) (0 : Int) + wr IntKind.i64 (n * List.getD x_10 (3 : Nat) (0 : Int))))) (0 :
  Nat) (0 : Int), List.getD (List.set (List.set (List.set (List.set [(0 : Int), (0 : Int), (0 : Int), (0 : Int)] (Int.toNat (0 : Int)) (wr IntKind.i64 (List.getD x (0 : Nat) (0 :
  Int) + wr IntKind.i64 (n * List.getD x_1 (0 : Nat) (0 : Int))))) (Int.toNat (1 : Int)) (wr IntKind.i64 (List.getD x_3 (1 : Nat) (0 : Int) + wr IntKind.i64 (n * List.getD x_4 (1 :
  Nat) (0 : Int))))) (Int.toNat (2 : Int)) (wr IntKind.i64 (List.getD x_6 (2 : Nat) (0 : Int) + wr IntKind.i64 (n * List.getD x_7 (2 : Nat) (0 : Int))))) (Int.toNat (3 : Int)) (wr
  IntKind.i64 (List.getD x_9 (3 : Nat) (0 : Int) + wr IntKind.i64 (n * List.getD x_10 (3 : Nat) (0 : Int))))) (1 : Nat) (0 : Int), List.getD (List.set (List.set (List.set (List.set
  [(0 : Int), (0 : Int), (0 : Int), (0 : Int)] (Int.toNat (0 : Int)) (wr IntKind.i64 (List.getD x (0 : Nat) (0 : Int) + wr IntKind.i64 (n * List.getD x_1 (0 : Nat) (0 : Int)))))
  (Int.toNat (1 : Int)) (wr IntKind.i64 (List.getD x_3 (1 : Nat) (0 : Int) + wr IntKind.i64 (n * List.getD x_4 (1 : Nat) (0 : Int))))) (Int.toNat (2 : Int)) (wr IntKind.i64
  (List.getD x_6 (2 : Nat) (0 : Int) + wr IntKind.i64 (n * List.getD x_7 (2 : Nat) (0 : Int))))) (Int.toNat (3 : Int)) (wr IntKind.i64 (List.getD x_9 (3 : Nat) (0 : Int) + wr
  IntKind.i64 (n * List.getD x_10 (3 : Nat) (0 : Int))))) (2 : Nat) (0 : Int), List.getD (List.set (List.set (List.set (List.set [(0 : Int), (0 : Int), (0 : Int), (0 : Int)]
  (Int.toNat (0 : Int)) (wr IntKind.i64 (List.getD x (0 : Nat) (0 : Int) + wr IntKind.i64 (n * List.getD x_1 (0 : Nat) (0 : Int))))) (Int.toNat (1 : Int)) (wr IntKind.i64 (List.getD
  x_3 (1 : Nat) (0 : Int) + wr IntKind.i64 (n * List.getD x_4 (1 : Nat) (0 : Int))))) (Int.toNat (2 : Int)) (wr IntKind.i64 (List.getD x_6 (2 : Nat) (0 : Int) + wr IntKind.i64 (n *
  List.getD x_7 (2 : Nat) (0 : Int))))) (Int.toNat (3 : Int)) (wr IntKind.i64 (List.getD x_9 (3 : Nat) (0 : Int) + wr IntKind.i64 (n * List.getD x_10 (3 : Nat) (0 : Int))))) (3 :
  Nat) (0 : Int)] (0 : Nat) (0 : Int) = List.getD d (0 : Nat) (0 : Int) ∧ List.getD [List.getD (List.set (List.set (List.set (List.set [(0 : Int), (0 : Int), (0 : Int), (0 : Int)]
  (Int.toNat (0 : Int)) (wr IntKind.i64 (List.getD x (0 : Nat) (0 : Int) + wr IntKind.i64 (n * List.getD x_1 (0 : Nat) (0 : Int))))) (Int.toNat (1 : Int)) (wr IntKind.i64 (List.getD
  x_3 (1 : Nat) (0 : Int) + wr IntKind.i64 (n * List.getD x_4 (1 : Nat) (0 : Int))))) (Int.toNat (2 : Int)) (wr IntKind.i64 (List.getD x_6 (2 : Nat) (0 : Int) + wr IntKind.i64 (n *
  List.getD x_7 (2 : Nat) (0 : Int))))) (Int.toNat (3 : Int)) (wr IntKind.i64 (List.getD x_9 (3 : Nat) (0 : Int) + wr IntKind.i64 (n * List.getD x_10 (3 : Nat) (0 : Int))))) (0 :
  Nat) (0 : Int), List.getD (List.set (List.set (List.set (List.set [(0 : Int), (0 : Int), (0 : Int), (0 : Int)] (Int.toNat (0 : Int)) (wr IntKind.i64 (List.getD x (0 : Nat) (0 :
  Int) + wr IntKind.i64 (n * List.getD x_1 (0 : Nat) (0 : Int))))) (Int.toNat (1 : Int)) (wr IntKind.i64 (List.getD x_3 (1 : Nat) (0 : Int) + wr IntKind.i64 (n * List.getD x_4 (1 :
  Nat) (0 : Int))))) (Int.toNat (2 : Int)) (wr IntKind.i64 (List.getD x_6 (2 : Nat) (0 : Int) + wr IntKind.i64 (n * List.getD x_7 (2 : Nat) (0 : Int))))) (Int.toNat (3 : Int)) (wr
  IntKind.i64 (List.getD x_9 (3 : Nat) (0 : Int) + wr IntKind.i64 (n * List.getD x_10 (3 : Nat) (0 : Int))))) (1 : Nat) (0 : Int), List.getD (List.set (List.set (List.set (List.set
  [(0 : Int), (0 : Int), (0 : Int), (0 : Int)] (Int.toNat (0 : Int)) (wr IntKind.i64 (List.getD x (0 : Nat) (0 : Int) + wr IntKind.i64 (n * List.getD x_1 (0 : Nat) (0 : Int)))))
  (Int.toNat (1 : Int)) (wr IntKind.i64 (List.getD x_3 (1 : Nat) (0 : Int) + wr IntKind.i64 (n * List.getD x_4 (1 : Nat) (0 : Int))))) (Int.toNat (2 : Int)) (wr IntKind.i64
  (List.getD x_6 (2 : Nat) (0 : Int) + wr IntKind.i64 (n * List.getD x_7 (2 : Nat) (0 : Int))))) (Int.toNat (3 : Int)) (wr IntKind.i64 (List.getD x_9 (3 : Nat) (0 : Int) + wr
  IntKind.i64 (n * List.getD x_10 (3 : Nat) (0 : Int))))) (2 : Nat) (0 : Int), List.getD (List.set (List.set (List.set (List.set [(0 : Int), (0 : Int), (0 : Int), (0 : Int)]
  (Int.toNat (0 : Int)) (wr IntKind.i64 (List.getD x (0 : Nat) (0 : Int) + wr IntKind.i64 (n * List.getD x_1 (0 : Nat) (0 : Int))))) (Int.toNat (1 : Int)) (wr IntKind.i64 (List.getD
  x_3 (1 : Nat) (0 : Int) + wr IntKind.i64 (n * List.getD x_4 (1 : Nat) (0 : Int))))) (Int.toNat (2 : Int)) (wr IntKind.i64 (List.getD x_6 (2 : Nat) (0 : Int) + wr IntKind.i64 (n *
  List.getD x_7 (2 : Nat) (0 : Int))))) (Int.toNat (3 : Int)) (wr IntKind.i64 (List.getD x_9 (3 : Nat) (0 : Int) + wr IntKind.i64 (n * List.getD x_10 (3 : Nat) (0 : Int))))) (3 :
  Nat) (0 : Int)] (1 : Nat) (0 : Int) = List.getD d (1 : Nat) (0 : Int) ∧ List.getD [List.getD (List.set (List.set (List.set (List.set [(0 : Int), (0 : Int), (0 : Int), (0 : Int)]
  (Int.toNat (0 : Int)) (wr IntKind.i64 (List.getD x (0 : Nat) (0 : Int) + wr IntKind.i64 (n * List.getD x_1 (0 : Nat) (0 : Int))))) (Int.toNat (1 : Int)) (wr IntKind.i64 (List.getD
  x_3 (1 : Nat) (0 : Int) + wr IntKind.i64 (n * List.getD x_4 (1 : Nat) (0 : Int))))) (Int.toNat (2 : Int)) (wr IntKind.i64 (List.getD x_6 (2 : Nat) (0 : Int) + wr IntKind.i64 (n *
  List.getD x_7 (2 : Nat) (0 : Int))))) (Int.toNat (3 : Int)) (wr IntKind.i64 (List.getD x_9 (3 : Nat) (0 : Int) + wr IntKind.i64 (n * List.getD x_10 (3 : Nat) (0 : Int))))) (0 :
  Nat) (0 : Int), List.getD (List.set (List.set (List.set (List.set [(0 : Int), (0 : Int), (0 : Int), (0 : Int)] (Int.toNat (0 : Int)) (wr IntKind.i64 (List.getD x (0 : Nat) (0 :
  Int) + wr IntKind.i64 (n * List.getD x_1 (0 : Nat) (0 : Int))))) (Int.toNat (1 : Int)) (wr IntKind.i64 (List.getD x_3 (1 : Nat) (0 : Int) + wr IntKind.i64 (n * List.getD x_4 (1 :
  Nat) (0 : Int))))) (Int.toNat (2 : Int)) (wr IntKind.i64 (List.getD x_6 (2 : Nat) (0 : Int) + wr IntKind.i64 (n * List.getD x_7 (2 : Nat) (0 : Int))))) (Int.toNat (3 : Int)) (wr
  IntKind.i64 (List.getD x_9 (3 : Nat) (0 : Int) + wr IntKind.i64 (n * List.getD x_10 (3 : Nat) (0 : Int))))) (1 : Nat) (0 : Int), List.getD (List.set (List.set (List.set (List.set
  [(0 : Int), (0 : Int), (0 : Int), (0 : Int)] (Int.toNat (0 : Int)) (wr IntKind.i64 (List.getD x (0 : Nat) (0 : Int) + wr IntKind.i64 (n * List.getD x_1 (0 : Nat) (0 : Int)))))
  (Int.toNat (1 : Int)) (wr IntKind.i64 (List.getD x_3 (1 : Nat) (0 : Int) + wr IntKind.i64 (n * List.getD x_4 (1 : Nat) (0 : Int))))) (Int.toNat (2 : Int)) (wr IntKind.i64
  (List.getD x_6 (2 : Nat) (0 : Int) + wr IntKind.i64 (n * List.getD x_7 (2 : Nat) (0 : Int))))) (Int.toNat (3 : Int)) (wr IntKind.i64 (List.getD x_9 (3 : Nat) (0 : Int) + wr
  IntKind.i64 (n * List.getD x_10 (3 : Nat) (0 : Int))))) (2 : Nat) (0 : Int), List.getD (List.set (List.set (List.set (List.set [(0 : Int), (0 : Int), (0 : Int), (0 : Int)]
  (Int.toNat (0 : Int)) (wr IntKind.i64 (List.getD x (0 : Nat) (0 : Int) + wr IntKind.i64 (n * List.getD x_1 (0 : Nat) (0 : Int))))) (Int.toNat (1 : Int)) (wr IntKind.i64 (List.getD
  x_3 (1 : Nat) (0 : Int) + wr IntKind.i64 (n * List.getD x_4 (1 : Nat) (0 : Int))))) (Int.toNat (2 : Int)) (wr IntKind.i64 (List.getD x_6 (2 : Nat) (0 : Int) + wr IntKind.i64 (n *
  List.getD x_7 (2 : Nat) (0 : Int))))) (Int.toNat (3 : Int)) (wr IntKind.i64 (List.getD x_9 (3 : Nat) (0 : Int) + wr IntKind.i64 (n * List.getD x_10 (3 : Nat) (0 : Int))))) (3 :
  Nat) (0 : Int)] (2 : Nat) (0 : Int) = List.getD d (2 : Nat) (0 : Int) ∧ List.getD [List.getD (List.set (List.set (List.set (List.set [(0 : Int), (0 : Int), (0 : Int), (0 : Int)]
  (Int.toNat (0 : Int)) (wr IntKind.i64 (List.getD x (0 : Nat) (0 : Int) + wr IntKind.i64 (n * List.getD x_1 (0 : Nat) (0 : Int))))) (Int.toNat (1 : Int)) (wr IntKind.i64 (List.getD
  x_3 (1 : Nat) (0 : Int) + wr IntKind.i64 (n * List.getD x_4 (1 : Nat) (0 : Int))))) (Int.toNat (2 : Int)) (wr IntKind.i64 (List.getD x_6 (2 : Nat) (0 : Int) + wr IntKind.i64 (n *
  List.getD x_7 (2 : Nat) (0 : Int))))) (Int.toNat (3 : Int)) (wr IntKind.i64 (List.getD x_9 (3 : Nat) (0 : Int) + wr IntKind.i64 (n * List.getD x_10 (3 : Nat) (0 : Int))))) (0 :
  Nat) (0 : Int), List.getD (List.set (List.set (List.set (List.set [(0 : Int), (0 : Int), (0 : Int), (0 : Int)] (Int.toNat (0 : Int)) (wr IntKind.i64 (List.getD x (0 : Nat) (0 :
  Int) + wr IntKind.i64 (n * List.getD x_1 (0 : Nat) (0 : Int))))) (Int.toNat (1 : Int)) (wr IntKind.i64 (List.getD x_3 (1 : Nat) (0 : Int) + wr IntKind.i64 (n * List.getD x_4 (1 :
  Nat) (0 : Int))))) (Int.toNat (2 : Int)) (wr IntKind.i64 (List.getD x_6 (2 : Nat) (0 : Int) + wr IntKind.i64 (n * List.getD x_7 (2 : Nat) (0 : Int))))) (Int.toNat (3 : Int)) (wr
  IntKind.i64 (List.getD x_9 (3 : Nat) (0 : Int) + wr IntKind.i64 (n * List.getD x_10 (3 : Nat) (0 : Int))))) (1 : Nat) (0 : Int), List.getD (List.set (List.set (List.set (List.set
  [(0 : Int), (0 : Int), (0 : Int), (0 : Int)] (Int.toNat (0 : Int)) (wr IntKind.i64 (List.getD x (0 : Nat) (0 : Int) + wr IntKind.i64 (n * List.getD x_1 (0 : Nat) (0 : Int)))))
  (Int.toNat (1 : Int)) (wr IntKind.i64 (List.getD x_3 (1 : Nat) (0 : Int) + wr IntKind.i64 (n * List.getD x_4 (1 : Nat) (0 : Int))))) (Int.toNat (2 : Int)) (wr IntKind.i64
  (List.getD x_6 (2 : Nat) (0 : Int) + wr IntKind.i64 (n * List.getD x_7 (2 : Nat) (0 : Int))))) (Int.toNat (3 : Int)) (wr IntKind.i64 (List.getD x_9 (3 : Nat) (0 : Int) + wr
  IntKind.i64 (n * List.getD x_10 (3 : Nat) (0 : Int))))) (2 : Nat) (0 : Int), List.getD (List.set (List.set (List.set (List.set [(0 : Int), (0 : Int), (0 : Int), (0 : Int)]
  (Int.toNat (0 : Int)) (wr IntKind.i64 (List.getD x (0 : Nat) (0 : Int) + wr IntKind.i64 (n * List.getD x_1 (0 : Nat) (0 : Int))))) (Int.toNat (1 : Int)) (wr IntKind.i64 (List.getD
  x_3 (1 : Nat) (0 : Int) + wr IntKind.i64 (n * List.getD x_4 (1 : Nat) (0 : Int))))) (Int.toNat (2 : Int)) (wr IntKind.i64 (List.getD x_6 (2 : Nat) (0 : Int) + wr IntKind.i64 (n *
  List.getD x_7 (2 : Nat) (0 : Int))))) (Int.toNat (3 : Int)) (wr IntKind.i64 (List.getD x_9 (3 : Nat) (0 : Int) + wr IntKind.i64 (n * List.getD x_10 (3 : Nat) (0 : Int))))) (3 :
  Nat) (0 : Int)] (3 : Nat) (0 : Int) = List.getD d (3 : Nat) (0 : Int) ∧ True) ∧ true = b ∧ True))))
  ) := by kernel_rfl
--@end
theorem in3_iff (c : Int) : in3 c = true ↔ (-3 ≤ c ∧ c ≤ 3) := by
  unfold in3
  simp only [Bool.not_eq_true', Bool.or_eq_false_iff, decide_eq_false_iff_not]
  omega
theorem q3 (c : Int) {Kt Kf : Prop} (h1 : in3 c = false → Kt) (h2 : in3 c = true → Kf) : ∃ Q : Bool → Prop, ((c < -3 → Q true) ∧ (¬ c < -3 → (c > 3 → Q true) ∧ (¬ c > 3 → Q false))) ∧ (Q true → Kt) ∧ (Q false → Kf) := by
  have hi := in3_iff c
  have hf : ¬ (-3 ≤ c ∧ c ≤ 3) → in3 c = false := fun h => by rw [← Bool.not_eq_true, hi]; exact h
  refine ⟨fun q => q = true ↔ in3 c = false, And.intro (fun h => ⟨fun _ => hf (by omega), fun _ => rfl⟩) (fun h => And.intro (fun h' => ⟨fun _ => hf (by omega), fun _ => rfl⟩) (fun h' => ⟨fun h => (by cases h), fun h => ?_⟩)), fun h => h1 (h.1 rfl), fun h => h2 ?_⟩
  · rw [hi.2 (by omega)] at h; cases h
  · cases hh : in3 c with
    | true => rfl
    | false => exact absurd (h.2 hh) (by simp)
theorem pow_pure (ds : List (List Int)) (n : Int) (h2 : 2 ≤ ds.length) : PureC E 71 [.psl Th.dims ds false, .pptr Th.ints n 0] (optV (cmb n (ds.getD 0 []) (ds.getD 1 []))) := by
  match ds, h2 with
  | a :: b :: r, h2 =>
  refine pure_of_call E_ok (call0 2000) ?_
  unfold optV
  rw [cond_pow]
  have e : ∀ x y, wr IntKind.i64 (x + wr IntKind.i64 (n * y)) = cmb1 n x y := fun _ _ => rfl
  simp only [bif_true, bif_false, bif_nt, bif_tf, bif_ft, beq_iff_eq, bne_iff_ne, beq_eq_false_iff_ne, bne_eq_false_iff_eq, decide_eq_true_eq, decide_eq_false_iff_not, Bool.or_eq_true, Bool.or_eq_false_iff, Bool.not_eq_true', Bool.not_eq_false', Bool.and_eq_true, Bool.and_true, Bool.true_and, Bool.and_eq_false_iff, beq_self_eq_true, mm2_max, mm2_min, ne_eq, and_true, true_and, Bool.true_eq_false, Bool.false_eq_true, false_or, or_false, true_implies, imp_self, Int.ofNat_eq_natCast, not_true_eq_false, not_false_eq_true, Decidable.not_not, List.getElem?_cons_zero, List.getElem?_cons_succ, Option.some.injEq, forall_eq', forall_eq, List.set_cons_zero, List.set_cons_succ, List.length_cons, List.length_nil, List.getD_cons_zero, List.getD_cons_succ, tn0, tn1, tn2, tn3, Int.le_refl, Nat.le_refl, Nat.reduceAdd, Int.reduceAdd, Int.reduceLE, Nat.reduceLeDiff, cn4, cn16, e]
  unfold cmb
  generalize cmb1 n (a.getD 0 0) (b.getD 0 0) = c0
  generalize cmb1 n (a.getD 1 0) (b.getD 1 0) = c1
  generalize cmb1 n (a.getD 2 0) (b.getD 2 0) = c2
  generalize cmb1 n (a.getD 3 0) (b.getD 3 0) = c3
  simp only [List.length_cons] at h2
  repeat' (first | omega | (refine q3 _ (fun h => ?_) (fun h => ?_)) | (refine And.intro ?_ ?_))
  all_goals simp [*]
--@cond rule1 | 43 | F0 | 400 | (ds : List (List Int)) | [.psl Th.dims ds false] | (d : List Int) (b : Bool) | .tup [dimV d, .bool false b]
theorem cond_rule1 (ds : List (List Int)) (d : List Int) (b : Bool) : callF E F0 (vc E F0 400) 43 [.psl Th.dims ds false] hp0 0 (fun r => ret E (patch hp0 0 r) r.v (.tup [dimV d, .bool false b])) = (
  (0 : Int) ≤ (0 : Int) ∧ (0 : Int) + (1 : Int) ≤ (↑(List.length ds) : Int) ∧ ∀ (x : List Int), ds[Int.toNat (0 : Int)]? = some x → (0 : Int) ≤ (0 : Int) ∧ (0 : Int) + (1 : Int) ≤
  (↑(List.length ds) : Int) ∧ ∀ (x_1 : List Int), ds[Int.toNat (0 : Int)]? = some x_1 → (0 : Int) ≤ (1 : Int) ∧ (1 : Int) + (1 : Int) ≤ (↑(List.length ds) : Int) ∧ ∀ (x_2 : List
  Int), ds[Int.toNat (1 : Int)]? = some x_2 → ((List.getD x_1 (0 : Nat) (0 : Int) == List.getD x_2 (0 : Nat) (0 : Int) && (List.getD x_1 (1 : Nat) (0 : Int) == List.getD x_2 (1 :
  Nat) (0 : Int) && (List.getD x_1 (2 : Nat) (0 : Int) == List.getD x_2 (2 : Nat) (0 : Int) && (List.getD x_1 (3 : Nat) (0 : Int) == List.getD x_2 (3 : Nat) (0 : Int) && true)))) =
  true → (4 : Nat) = (4 : Nat) ∧ (4 : Nat) = (4 : Nat) ∧ (List.getD [List.getD x (0 : Nat) (0 : Int), List.getD x (1 : Nat) (0 : Int), List.getD x (2 : Nat) (0 : Int), List.getD x (3
  : Nat) (0 : Int)] (0 : Nat) (0 : Int) = List.getD d (0 : Nat) (0 : Int) ∧ List.getD [List.getD x (0 : Nat) (0 : Int), List.getD x (1 : Nat) (0 : Int), List.getD x (2 : Nat) (0 :
  Int), List.getD x (3 : Nat) (0 : Int)] (1 : Nat) (0 : Int) = List.getD d (1 : Nat) (0 : Int) ∧ List.getD [List.getD x (0 : Nat) (0 : Int), List.getD x (1 : Nat) (0 : Int),
  List.getD x (2 : Nat) (0 : Int), List.getD x (3 : Nat) (0 : Int)] (2 : Nat) (0 : Int) = List.getD d (2 : Nat) (0 : Int) ∧ List.getD [List.getD x (0 : Nat) (0 : Int), List.getD x (1
  : Nat) (0 : Int), List.getD x (2 : Nat) (0 : Int), List.getD x (3 : Nat) (0 : Int)] (3 : Nat) (0 : Int) = List.getD d (3 : Nat) (0 : Int) ∧ True) ∧ true = b ∧ True) ∧ ((List.getD
  x_1 (0 : Nat) (0 : Int) == List.getD x_2 (0 : Nat) (0 : Int) && (List.getD x_1 (1 : Nat) (0 : Int) == List.getD x_2 (1 : Nat) (0 : Int) && (List.getD x_1 (2 : Nat) (0 : Int) ==
  List.getD x_2 (2 : Nat) (0 : Int) && (List.getD x_1 (3 : Nat) (0 : Int) == List.getD x_2 (3 : Nat) (0 : Int) && true)))) = false → (4 : Nat) = (4 : Nat) ∧ (4 : Nat) = (4 : Nat) ∧
  (List.getD [List.getD x (0 : Nat) (0 : Int), List.getD x (1 : Nat) (0 : Int), List.getD x (2 : Nat) (0 : Int), List.getD x (3 : Nat) (0 : Int)] (0 : Nat) (0 : Int) = List.getD d (0
  : Nat) (0 : Int) ∧ List.getD [List.getD x (0 : Nat) (0 : Int), List.getD x (1 : Nat) (0 : Int), List.getD x (2 : Nat) (0 : Int), List.getD x (3 : Nat) (0 : Int)] (1 : Nat) (0 :
  Int) = List.getD d (1 : Nat) (0 : Int) ∧ List.getD [List.getD x (0 : Nat) (0 : Int), List.getD x (1 : Nat) (0 : Int), List.getD x (2 : Nat) (0 : Int), List.getD x (3 : Nat) (0 :
  Int)] (2 : Nat) (0 : Int) = List.getD d (2 : Nat) (0 : Int) ∧ List.getD [List.getD x (0 : Nat) (0 : Int), List.getD x (1 : Nat) (0 : Int), List.getD x (2 : Nat) (0 : Int),
  List.getD x (3 : Nat) (0 : Int)] (3 : Nat) (0 : Int) = List.getD d (3 : Nat) (0 : Int) ∧ True) ∧ false = b ∧ True)
  ) := by kernel_rfl
--@end
def eq4 (a b : List Int) : Bool := a.getD 0 0 == b.getD 0 0 && (a.getD 1 0 == b.getD 1 0 && (a.getD 2 0 == b.getD 2 0 && a.getD 3 0 == b.getD 3 0))
theorem eq4_t {a b : List Int} (h : a.getD 0 0 = b.getD 0 0 ∧ a.getD 1 0 = b.getD 1 0 ∧ a.getD 2 0 = b.getD 2 0 ∧ a.getD 3 0 = b.getD 3 0) : eq4 a b = true := by
  unfold eq4
  simp only [Bool.and_eq_true, beq_iff_eq]; exact h
theorem eq4_f {a b : List Int} (h : ¬ a.getD 0 0 = b.getD 0 0 ∨ ¬ a.getD 1 0 = b.getD 1 0 ∨ ¬ a.getD 2 0 = b.getD 2 0 ∨ ¬ a.getD 3 0 = b.getD 3 0) : eq4 a b = false := by
  rw [Bool.eq_false_iff]
  intro h'
  unfold eq4 at h'
  simp only [Bool.and_eq_true, beq_iff_eq] at h'
  omega
theorem eq4_iff {a b : List Int} (ha : Is4 a) (hb : Is4 b) : eq4 a b = decide (a = b) := by
  obtain ⟨a0, a1, a2, a3, rfl⟩ := ha
  obtain ⟨b0, b1, b2, b3, rfl⟩ := hb
  rw [Bool.eq_iff_iff, decide_eq_true_eq]
  unfold eq4
  simp
theorem rule1_pure (ds : List (List Int)) (h2 : 2 ≤ ds.length) : PureC E 43 [.psl Th.dims ds false] (.tup [dimV (ds.getD 0 []), .bool false (eq4 (ds.getD 0 []) (ds.getD 1 []))]) := by
  match ds, h2 with
  | a :: b :: r, h2 =>
  refine pure_of_call E_ok (call0 400) ?_
  rw [cond_rule1]
  simp only [bif_true, bif_false, bif_nt, bif_tf, bif_ft, beq_iff_eq, bne_iff_ne, beq_eq_false_iff_ne, bne_eq_false_iff_eq, decide_eq_true_eq, decide_eq_false_iff_not, Bool.or_eq_true, Bool.or_eq_false_iff, Bool.not_eq_true', Bool.not_eq_false', Bool.and_eq_true, Bool.and_true, Bool.true_and, Bool.and_eq_false_iff, beq_self_eq_true, mm2_max, mm2_min, ne_eq, and_true, true_and, Bool.true_eq_false, Bool.false_eq_true, false_or, or_false, true_implies, imp_self, Int.ofNat_eq_natCast, not_true_eq_false, not_false_eq_true, Decidable.not_not, List.getElem?_cons_zero, List.getElem?_cons_succ, Option.some.injEq, forall_eq', forall_eq, List.set_cons_zero, List.set_cons_succ, List.length_cons, List.length_nil, List.getD_cons_zero, List.getD_cons_succ, tn0, tn1, tn2, tn3, Int.le_refl, Nat.le_refl, Nat.reduceAdd, Int.reduceAdd, Int.reduceLE, Nat.reduceLeDiff, cn4, cn16]
  simp only [List.length_cons] at h2
  refine ⟨by omega, by omega, by omega, fun h => ?_, fun h => ?_⟩
  · exact (eq4_t h).symm
  · exact (eq4_f h).symm
--@cond rule2 | 44 | F0 | 400 | (ds : List (List Int)) | [.psl Th.dims ds false] | (d : List Int) (b : Bool) | .tup [dimV d, .bool false b]
theorem cond_rule2 (ds : List (List Int)) (d : List Int) (b : Bool) : callF E F0 (vc E F0 400) 44 [.psl Th.dims ds false] hp0 0 (fun r => ret E (patch hp0 0 r) r.v (.tup [dimV d, .bool false b])) = (
  (0 : Int) ≤ (2 : Int) ∧ (2 : Int) + (1 : Int) ≤ (↑(List.length ds) : Int) ∧ ∀ (x : List Int), ds[Int.toNat (2 : Int)]? = some x → (0 : Int) ≤ (0 : Int) ∧ (0 : Int) + (1 : Int) ≤
  (↑(List.length ds) : Int) ∧ ∀ (x_1 : List Int), ds[Int.toNat (0 : Int)]? = some x_1 → (0 : Int) ≤ (1 : Int) ∧ (1 : Int) + (1 : Int) ≤ (↑(List.length ds) : Int) ∧ ∀ (x_2 : List
  Int), ds[Int.toNat (1 : Int)]? = some x_2 → ((List.getD x_1 (0 : Nat) (0 : Int) == List.getD x_2 (0 : Nat) (0 : Int) && (List.getD x_1 (1 : Nat) (0 : Int) == List.getD x_2 (1 :
  Nat) (0 : Int) && (List.getD x_1 (2 : Nat) (0 : Int) == List.getD x_2 (2 : Nat) (0 : Int) && (List.getD x_1 (3 : Nat) (0 : Int) == List.getD x_2 (3 : Nat) (0 : Int) && true)))) =
  true → (0 : Int) ≤ (2 : Int) ∧ (2 : Int) + (1 : Int) ≤ (↑(List.length ds) : Int) ∧ ∀ (x_3 : List Int), ds[Int.toNat (2 : Int)]? = some x_3 → (0 : Int) ≤ (3 : Int) ∧ (3 : Int) + (1
  : Int) ≤ (↑(List.length ds) : Int) ∧ ∀ (x_4 : List Int), ds[Int.toNat (3 : Int)]? = some x_4 → ((List.getD x_3 (0 : Nat) (0 : Int) == List.getD x_4 (0 : Nat) (0 : Int) &&
  (List.getD x_3 (1 : Nat) (0 : Int) == List.getD x_4 (1 : Nat) (0 : Int) && (List.getD x_3 (2 : Nat) (0 : Int) == List.getD x_4 (2 : Nat) (0 : Int) && (List.getD x_3 (3 : Nat) (0 :
  Int) == List.getD x_4 (3 : Nat) (0 : Int) && true)))) = true → (4 : Nat) = (4 : Nat) ∧ (4 : Nat) = (4 : Nat) ∧ (List.getD [List.getD x (0 : Nat) (0 : Int), List.getD x (1 : Nat) (0
  : Int), List.getD x (2 : Nat) (0 : Int), List.getD x (3 : Nat) (0 : Int)] (0 : Nat) (0 : Int) = List.getD d (0 : Nat) (0 : Int) ∧ List.getD [List.getD x (0 : Nat) (0 : Int),
  List.getD x (1 : Nat) (0 : Int), List.getD x (2 : Nat) (0 : Int), List.getD x (3 : Nat) (0 : Int)] (1 : Nat) (0 : Int) = List.getD d (1 : Nat) (0 : Int) ∧ List.getD [List.getD x (0
  : Nat) (0 : Int), List.getD x (1 : Nat) (0 : Int), List.getD x (2 : Nat) (0 : Int), List.getD x (3 : Nat) (0 : Int)] (2 : Nat) (0 : Int) = List.getD d (2 : Nat) (0 : Int) ∧
  List.getD [List.getD x (0 : Nat) (0 : Int), List.getD x (1 : Nat) (0 : Int), List.getD x (2 : Nat) (0 : Int), List.getD x (3 : Nat) (0 : Int)] (3 : Nat) (0 : Int) = List.getD d (3
  : Nat) (0 : Int) ∧ True) ∧ true = b ∧ True) ∧ ((List.getD x_3 (0 : Nat) (0 : Int) == List.getD x_4 (0 : Nat) (0 : Int) && (List.getD x_3 (1 : Nat) (0 : Int) == List.getD x_4 (1 :
  Nat) (0 : Int) && (List.getD x_3 (2 : Nat) (0 : Int) == List.getD x_4 (2 : Nat) (0 : Int) && (List.getD x_3 (3 : Nat) (0 : Int) == List.getD x_4 (3 : Nat) (0 : Int) && true)))) =
  false → (4 : Nat) = (4 : Nat) ∧ (4 : Nat) = (4 : Nat) ∧ (List.getD [List.getD x (0 : Nat) (0 : Int), List.getD x (1 : Nat) (0 : Int), List.getD x (2 : Nat) (0 : Int), List.getD x
  (3 : Nat) (0 : Int)] (0 : Nat) (0 : Int) = List.getD d (0 : Nat) (0 : Int) ∧ List.getD [List.getD x (0 : Nat) (0 : Int), List.getD x (1 : Nat) (0 : Int), List.getD x (2 : Nat) (0 :
  Int), List.getD x (3 : Nat) (0 : Int)] (1 : Nat) (0 : Int) = List.getD d (1 : Nat) (0 : Int) ∧ List.getD [List.getD x (0 : Nat) (0 : Int), List.getD x (1 : Nat) (0 : Int),
  List.getD x (2 : Nat) (0 : Int), List.getD x (3 : Nat) (0 : Int)] (2 : Nat) (0 : Int) = List.getD d (2 : Nat) (0 : Int) ∧ List.getD [List.getD x (0 : Nat) (0 : Int), List.getD x (1
  : Nat) (0 : Int), List.getD x (2 : Nat) (0 : Int), List.getD x (3 : Nat) (0 : Int)] (3 : Nat) (0 : Int) = List.getD d (3 : Nat) (0 : Int) ∧ True) ∧ false = b ∧ True)) ∧ ((List.getD
  x_1 (0 : Nat) (0 : Int) == List.getD x_2 (0 : Nat) (0 : Int) && (List.getD x_1 (1 : Nat) (0 : Int) == List.getD x_2 (1 : Nat) (0 : Int) && (List.getD x_1 (2 : Nat) (0 : Int) ==
  List.getD x_2 (2 : Nat) (0 : Int) && (List.getD x_1 (3 : Nat) (0 : Int) == List.getD x_2 (3 : Nat) (0 : Int) && true)))) = false → (4 : Nat) = (4 : Nat) ∧ (4 : Nat) = (4 : Nat) ∧
  (List.getD [List.getD x (0 : Nat) (0 : Int), List.getD x (1 : Nat) (0 : Int), List.getD x (2 : Nat) (0 : Int), List.getD x (3 : Nat) (0 : Int)] (0 : Nat) (0 : Int) = List.getD d (0
  : Nat) (0 : Int) ∧ List.getD [List.getD x (0 : Nat) (0 : Int), List.getD x (1 : Nat) (0 : Int), List.getD x (2 : Nat) (0 : Int), List.getD x (3 : Nat) (0 : Int)] (1 : Nat) (0 :
  Int) = List.getD d (1 : Nat) (0 : Int) ∧ List.getD [List.getD x (0 : Nat) (0 : Int), List.getD x (1 : Nat) (0 : Int), List.getD x (2 : Nat) (0 : Int), List.getD x (3 : Nat) (0 :
  Int)] (2 : Nat) (0 : Int) = List.getD d (2 : Nat) (0 : Int) ∧ List.getD [List.getD x (0 : Nat) (0 : Int), List.getD x (1 : Nat) (0 : Int), List.getD x (2 : Nat) (0 : Int),
  List.getD x (3 : Nat) (0 : Int)] (3 : Nat) (0 : Int) = List.getD d (3 : Nat) (0 : Int) ∧ True) ∧ false = b ∧ True)
  ) := by kernel_rfl
--@end
theorem rule2_pure (ds : List (List Int)) (h2 : 4 ≤ ds.length) : PureC E 44 [.psl Th.dims ds false] (.tup [dimV (ds.getD 2 []), .bool false (eq4 (ds.getD 0 []) (ds.getD 1 []) && eq4 (ds.getD 2 []) (ds.getD 3 []))]) := by
  match ds, h2 with
  | a :: b :: c :: d :: r, h2 =>
  refine pure_of_call E_ok (call0 400) ?_
  rw [cond_rule2]
  simp only [bif_true, bif_false, bif_nt, bif_tf, bif_ft, beq_iff_eq, bne_iff_ne, beq_eq_false_iff_ne, bne_eq_false_iff_eq, decide_eq_true_eq, decide_eq_false_iff_not, Bool.or_eq_true, Bool.or_eq_false_iff, Bool.not_eq_true', Bool.not_eq_false', Bool.and_eq_true, Bool.and_true, Bool.true_and, Bool.and_eq_false_iff, beq_self_eq_true, mm2_max, mm2_min, ne_eq, and_true, true_and, Bool.true_eq_false, Bool.false_eq_true, false_or, or_false, true_implies, imp_self, Int.ofNat_eq_natCast, not_true_eq_false, not_false_eq_true, Decidable.not_not, List.getElem?_cons_zero, List.getElem?_cons_succ, Option.some.injEq, forall_eq', forall_eq, List.set_cons_zero, List.set_cons_succ, List.length_cons, List.length_nil, List.getD_cons_zero, List.getD_cons_succ, tn0, tn1, tn2, tn3, Int.le_refl, Nat.le_refl, Nat.reduceAdd, Int.reduceAdd, Int.reduceLE, Nat.reduceLeDiff, cn4, cn16]
  simp only [List.length_cons] at h2
  refine ⟨by omega, by omega, by omega, fun h => ⟨by omega, by omega, fun h' => ?_, fun h' => ?_⟩, fun h => ?_⟩
  · rw [eq4_t h, eq4_t h']; rfl
  · rw [eq4_f h', Bool.and_false]
  · rw [eq4_f h, Bool.false_and]
end Go.Proofs.YtpllflefaccmkaaGreatDoor

/- Chapter 17: units of expressions: the program's unit. -/
namespace Go.Proofs.YtpllflefaccmkaaGreatDoor
open Go
set_option linter.unusedVariables false
set_option linter.unusedSimpArgs false
set_option maxRecDepth 100000
open Classical in
noncomputable def dRul : Dc E Unit where
  dec v := if v = rulesV then some () else none
  enc _ := rulesV
  ok v a h := by
    split at h
    · rename_i e; subst e; exact ⟨rfl, rfl, fun _ _ _ h => h⟩
    · cases h
noncomputable def Sunit (m : Nat) : Sum thy := fun args h i k => match args with
  | [r, xv] => r = rulesV ∧ (match (dR .exprs).dec xv with | some x => ((x : Ex).sz < m ∧ formX x = true) ∧ ∀ o, o = unitX x → k (quiet [] (optV o)) | none => False)
  | _ => False
theorem Sunit_ok {m : Nat} (hp : ∀ x : Ex, x.sz < m → formX x = true → PureC E 18 [rulesV, exA x] (optV (unitX x))) : SumOk E 18 (Sunit m) := by
  refine ⟨good_of (f := 18) rfl, fun args h i k hD hk => ?_⟩
  unfold Sunit at hk
  split at hk
  · rename_i r xv
    obtain ⟨rfl, hk⟩ := hk
    split at hk
    · rename_i x hx
      obtain ⟨⟨h1, h2⟩, hk⟩ := hk
      have hd : (DcL.cons dRul (dA1 (dR .exprs))).dec [rulesV, xv] = some ((), x, ()) := by
        have h0 : (dRul).dec rulesV = some () := by unfold dRul; simp
        simp only [DcL.cons, dA1, DcL.nil, h0, hx]
      have hpure : PureC E 18 [rulesV, xv] (optV (unitX x)) := PureC.of_dec hd (hp x h1 h2)
      have hn := (DcL.cons dRul (dA1 (dR .exprs))).ok _ _ hd
      exact ⟨_, hk _ rfl, hpure.tri E_ok hn.1 h i⟩
    · exact hk.elim
  · exact hk.elim
noncomputable def Spow : Sum thy := sumFY E (fun _ => none) 10 (dA2 dDims dPow) (fun x => 2 ≤ x.1.length) (fun x => cmb x.2.1 (x.1.getD 0 []) (x.1.getD 1 [])) optV
theorem Spow_ok : SumOk E 71 Spow := sumFY_ok E_ok (good_of (f := 71) rfl) fun x h => pow_pure _ _ h
def prV (p : List Int × Bool) : SV thy := .tup [dimV p.1, .bool false p.2]
noncomputable def Srul1 : Sum thy := sumFY E (fun _ => none) 10 (dA1 dDims) (fun x => 2 ≤ x.1.length) (fun x => (x.1.getD 0 [], eq4 (x.1.getD 0 []) (x.1.getD 1 []))) prV
theorem Srul1_ok : SumOk E 43 Srul1 := sumFY_ok E_ok (good_of (f := 43) rfl) fun x h => rule1_pure _ h
noncomputable def Srul2 : Sum thy := sumFY E (fun _ => none) 10 (dA1 dDims) (fun x => 4 ≤ x.1.length) (fun x => (x.1.getD 2 [], eq4 (x.1.getD 0 []) (x.1.getD 1 []) && eq4 (x.1.getD 2 []) (x.1.getD 3 []))) prV
theorem Srul2_ok : SumOk E 44 Srul2 := sumFY_ok E_ok (good_of (f := 44) rfl) fun x h => rule2_pure _ h
structure UnX where
  k : Nat
  r : Nat
  D : List (List Int)
noncomputable def Aunit : Fr thy → Hp thy → Nat → Ann2 thy := fun T h i => { X := UnX, fr := fun s x => [(0, T 0), (3, T 3), (4, T 4), (6, match s with | false => .val (.slice none 0 0) | true => .sl i 0 x.D.length 4 none), (24, T 24), (25, T 25), (26, .int false .i64 x.k)], bl := fun s x => match s with | false => blkP h (T 3) ++ blkP h (T 4) | true => (i, .rows Th.dims x.D 0) :: (blkP h (T 3) ++ blkP h (T 4)), src := fun s => match s with | false => [] | true => [(i, 6)], md := [bOf (T 4)], ih := i + 1, M := i + 40, meas := fun s x => x.r }
noncomputable def Funit0 : Fns thy := addS (addS (addS F0 71 Spow) 43 Srul1) 44 Srul2
theorem Funit0_ok : FnsOk E Funit0 := addS_ok (addS_ok (addS_ok F0_ok Spow_ok) Srul1_ok) Srul2_ok
noncomputable def Funit (m : Nat) : Fns thy := addL2 (addS Funit0 18 (Sunit m)) 18 8 Aunit E
--@cond unit | 18 | Funit0>(Funit m) | 800 | (m : Nat) (x : Ex) | [rulesV, exA x] | (o : Option (List Int)) | optV o
theorem cond_unit (m : Nat) (x : Ex) (o : Option (List Int)) : callF E Funit0 (vc E (Funit m) 800) 18 [rulesV, exA x] hp0 0 (fun r => ret E (patch hp0 0 r) r.v (optV o)) = (
  ((Ex.op x == (1 : Int)) = true → (4 : Nat) = (4 : Nat) ∧ (4 : Nat) = (4 : Nat) ∧ (Ex.d0 x = List.getD (Option.getD o [(0 : Int), (0 : Int), (0 : Int), (0 : Int)]) (0 : Nat) (0 :
  Int) ∧ Ex.d1 x = List.getD (Option.getD o [(0 : Int), (0 : Int), (0 : Int), (0 : Int)]) (1 : Nat) (0 : Int) ∧ Ex.d2 x = List.getD (Option.getD o [(0 : Int), (0 : Int), (0 : Int),
  (0 : Int)]) (2 : Nat) (0 : Int) ∧ Ex.d3 x = List.getD (Option.getD o [(0 : Int), (0 : Int), (0 : Int), (0 : Int)]) (3 : Nat) (0 : Int) ∧ True) ∧ true = Option.isSome o ∧ True) ∧
  ((Ex.op x == (1 : Int)) = false → ((Ex.op x == (2 : Int)) = true → (0 : Int) ≤ Ex.n x ∧ Ex.n x + (1 : Int) ≤ (↑(16 : Nat) : Int) ∧ ∀ (x_1 : List Int), [[(0 : Int), (0 : Int), (0 :
  Int), (0 : Int)], [(0 : Int), (0 : Int), (0 : Int), (0 : Int)], [(0 : Int), (0 : Int), (0 : Int), (0 : Int)], [(0 : Int), (0 : Int), (0 : Int), (0 : Int)], [(0 : Int), (0 : Int),
  (0 : Int), (0 : Int)], [(0 : Int), (0 : Int), (0 : Int), (1 : Int)], [(0 : Int), (0 : Int), (1 : Int), (0 : Int)], [(0 : Int), (1 : Int), (0 : Int), (0 : Int)], [(0 : Int), (1 :
  Int), (0 : Int), (0 : Int)], [(0 : Int), (0 : Int), (0 : Int), (0 : Int)], [(1 : Int), (0 : Int), (0 : Int), (0 : Int)], [(1 : Int), (0 : Int), (0 : Int), (0 : Int)], [(0 : Int),
  (0 : Int), (0 : Int), (0 : Int)], [(0 : Int), (0 : Int), (0 : Int), (0 : Int)], [(0 : Int), (0 : Int), (0 : Int), (0 : Int)], [(0 : Int), (0 : Int), (0 : Int), (0 :
  Int)]][Int.toNat (Ex.n x)]? = some x_1 → (4 : Nat) = (4 : Nat) ∧ (4 : Nat) = (4 : Nat) ∧ (List.getD x_1 (0 : Nat) (0 : Int) = List.getD (Option.getD o [(0 : Int), (0 : Int), (0 :
  Int), (0 : Int)]) (0 : Nat) (0 : Int) ∧ List.getD x_1 (1 : Nat) (0 : Int) = List.getD (Option.getD o [(0 : Int), (0 : Int), (0 : Int), (0 : Int)]) (1 : Nat) (0 : Int) ∧ List.getD
  x_1 (2 : Nat) (0 : Int) = List.getD (Option.getD o [(0 : Int), (0 : Int), (0 : Int), (0 : Int)]) (2 : Nat) (0 : Int) ∧ List.getD x_1 (3 : Nat) (0 : Int) = List.getD (Option.getD o
  [(0 : Int), (0 : Int), (0 : Int), (0 : Int)]) (3 : Nat) (0 : Int) ∧ True) ∧ true = Option.isSome o ∧ True) ∧ ((Ex.op x == (2 : Int)) = false → ∃ (R : Bool → UnX → Prop), ((∃ (x :
  UnX), R true x ∧ true = true ∧ False) ∨ ∃ (x_1 : UnX), R false x_1 ∧ true = true ∧ ((rulesEs = rulesEs ∧ true = true) ∧ (0 : Nat) = (0 : Nat) ∧ (0 : Nat) = (0 : Nat) ∧ Value.slice
  none (0 : Nat) (0 : Nat) = Value.slice none (0 : Nat) (0 : Nat) ∧ (Ex.l x = Ex.l x ∧ (false = true → false = true)) ∧ (↑(List.length (Ex.l x)) : Int) = (↑(List.length (Ex.l x)) :
  Int) ∧ (0 : Int) = (↑(UnX.k x_1) : Int) ∧ True) ∧ (Ex.op x = Ex.op x ∧ Ex.n x = Ex.n x ∧ Ex.d0 x = Ex.d0 x ∧ Ex.d1 x = Ex.d1 x ∧ Ex.d2 x = Ex.d2 x ∧ Ex.d3 x = Ex.d3 x ∧ (Ex.l x =
  Ex.l x ∧ (false = true → false = true)) ∧ True) ∧ ([(0 : Int), (0 : Int), (0 : Int), (0 : Int)] = [(0 : Int), (0 : Int), (0 : Int), (0 : Int)] ∧ (0 : Nat) = (0 : Nat)) ∧ True) ∧ (∀
  (x_1 : UnX), R true x_1 → (decide ((↑(UnX.k x_1) : Int) < (↑(List.length (Ex.l x)) : Int)) = true → (0 : Int) ≤ (↑(UnX.k x_1) : Int) ∧ (↑(UnX.k x_1) : Int) + (1 : Int) ≤
  (↑(List.length (Ex.l x)) : Int) ∧ ∀ (x_2 : Ex), (Ex.l x)[Int.toNat (↑(UnX.k x_1) : Int)]? = some x_2 → SV.pmap rulesEs = rulesV ∧ (Ex.sz (Ex.mk (Ex.op x_2) (Ex.n x_2) (Ex.d0 x_2)
  (Ex.d1 x_2) (Ex.d2 x_2) (Ex.d3 x_2) (Ex.l x_2)) + (1 : Nat) ≤ m ∧ formX (Ex.mk (Ex.op x_2) (Ex.n x_2) (Ex.d0 x_2) (Ex.d1 x_2) (Ex.d2 x_2) (Ex.d3 x_2) (Ex.l x_2)) = true) ∧ ∀ (o_1 :
  Option (List Int)), o_1 = unitX (Ex.mk (Ex.op x_2) (Ex.n x_2) (Ex.d0 x_2) (Ex.d1 x_2) (Ex.d2 x_2) (Ex.d3 x_2) (Ex.l x_2)) → (4 : Nat) = (4 : Nat) ∧ ((!Option.isSome o_1) = true →
  (4 : Nat) = (4 : Nat) ∧ (4 : Nat) = (4 : Nat) ∧ ((0 : Int) = List.getD (Option.getD o [(0 : Int), (0 : Int), (0 : Int), (0 : Int)]) (0 : Nat) (0 : Int) ∧ (0 : Int) = List.getD
  (Option.getD o [(0 : Int), (0 : Int), (0 : Int), (0 : Int)]) (1 : Nat) (0 : Int) ∧ (0 : Int) = List.getD (Option.getD o [(0 : Int), (0 : Int), (0 : Int), (0 : Int)]) (2 : Nat) (0 :
  Int) ∧ (0 : Int) = List.getD (Option.getD o [(0 : Int), (0 : Int), (0 : Int), (0 : Int)]) (3 : Nat) (0 : Int) ∧ True) ∧ false = Option.isSome o ∧ True) ∧ ((!Option.isSome o_1) =
  false → (4 : Nat) = (4 : Nat) ∧ (List.length (UnX.D x_1) ≤ List.length (UnX.D x_1) ∧ (0 : Nat) ≤ List.length (UnX.D x_1) ∧ (List.length (UnX.D x_1) + (1 : Nat)) * (32 : Nat) ≤
  (140737488355328 : Nat)) ∧ ((∃ (x' : UnX), R true x' ∧ x'.2 + (1 : Nat) ≤ x_1.2 ∧ true = true ∧ ((rulesEs = rulesEs ∧ true = true) ∧ (0 : Nat) = (0 : Nat) ∧ (0 : Nat) = (0 : Nat) ∧
  ((0 : Nat) = (0 : Nat) ∧ List.length (UnX.D x_1) + (1 : Nat) = List.length (UnX.D x') ∧ True) ∧ (Ex.l x = Ex.l x ∧ (false = true → false = true)) ∧ (↑(List.length (Ex.l x)) : Int)
  = (↑(List.length (Ex.l x)) : Int) ∧ wr IntKind.i64 ((↑(UnX.k x_1) : Int) + (1 : Int)) = (↑(UnX.k x') : Int) ∧ True) ∧ (List.take (List.length (UnX.D x_1)) (UnX.D x_1) ++
  [[List.getD (Option.getD o_1 [(0 : Int), (0 : Int), (0 : Int), (0 : Int)]) (0 : Nat) (0 : Int), List.getD (Option.getD o_1 [(0 : Int), (0 : Int), (0 : Int), (0 : Int)]) (1 : Nat)
  (0 : Int), List.getD (Option.getD o_1 [(0 : Int), (0 : Int), (0 : Int), (0 : Int)]) (2 : Nat) (0 : Int), List.getD (Option.getD o_1 [(0 : Int), (0 : Int), (0 : Int), (0 : Int)]) (3
  : Nat) (0 : Int)]] = UnX.D x' ∧ (0 : Nat) = (0 : Nat)) ∧ (Ex.op x = Ex.op x ∧ Ex.n x = Ex.n x ∧ Ex.d0 x = Ex.d0 x ∧ Ex.d1 x = Ex.d1 x ∧ Ex.d2 x = Ex.d2 x ∧ Ex.d3 x = Ex.d3 x ∧
  (Ex.l x = Ex.l x ∧ (false = true → false = true)) ∧ True) ∧ ([(0 : Int), (0 : Int), (0 : Int), (0 : Int)] = [(0 : Int), (0 : Int), (0 : Int), (0 : Int)] ∧ (0 : Nat) = (0 : Nat)) ∧
  True) ∨ ∃ (x' : UnX), R false x' ∧ x'.2 + (1 : Nat) ≤ x_1.2 ∧ true = true ∧ ((rulesEs = rulesEs ∧ true = true) ∧ (0 : Nat) = (0 : Nat) ∧ (0 : Nat) = (0 : Nat) ∧ False ∧ (Ex.l x =
  Ex.l x ∧ (false = true → false = true)) ∧ (↑(List.length (Ex.l x)) : Int) = (↑(List.length (Ex.l x)) : Int) ∧ wr IntKind.i64 ((↑(UnX.k x_1) : Int) + (1 : Int)) = (↑(UnX.k x') :
  Int) ∧ True) ∧ (Ex.op x = Ex.op x ∧ Ex.n x = Ex.n x ∧ Ex.d0 x = Ex.d0 x ∧ Ex.d1 x = Ex.d1 x ∧ Ex.d2 x = Ex.d2 x ∧ Ex.d3 x = Ex.d3 x ∧ (Ex.l x = Ex.l x ∧ (false = true → false =
  true)) ∧ True) ∧ ([(0 : Int), (0 : Int), (0 : Int), (0 : Int)] = [(0 : Int), (0 : Int), (0 : Int), (0 : Int)] ∧ (0 : Nat) = (0 : Nat)) ∧ True))) ∧ (decide ((↑(UnX.k x_1) : Int) <
  (↑(List.length (Ex.l x)) : Int)) = false → ((Ex.op x == (3 : Int)) = true → (0 : Nat) + List.length (UnX.D x_1) ≤ List.length (UnX.D x_1) ∧ (2 : Nat) ≤ List.length (List.take
  (List.length (UnX.D x_1)) (List.drop (0 : Nat) (UnX.D x_1))) ∧ ∀ (y : List Int × Bool), y = (List.getD (List.take (List.length (UnX.D x_1)) (List.drop (0 : Nat) (UnX.D x_1))) (0 :
  Nat) [], eq4 (List.getD (List.take (List.length (UnX.D x_1)) (List.drop (0 : Nat) (UnX.D x_1))) (0 : Nat) []) (List.getD (List.take (List.length (UnX.D x_1)) (List.drop (0 : Nat)
  (UnX.D x_1))) (1 : Nat) [])) → (4 : Nat) = (4 : Nat) ∧ ((!Prod.snd y) = true → (4 : Nat) = (4 : Nat) ∧ (4 : Nat) = (4 : Nat) ∧ ((0 : Int) = List.getD (Option.getD o [(0 : Int), (0
  : Int), (0 : Int), (0 : Int)]) (0 : Nat) (0 : Int) ∧ (0 : Int) = List.getD (Option.getD o [(0 : Int), (0 : Int), (0 : Int), (0 : Int)]) (1 : Nat) (0 : Int) ∧ (0 : Int) = List.getD
  (Option.getD o [(0 : Int), (0 : Int), (0 : Int), (0 : Int)]) (2 : Nat) (0 : Int) ∧ (0 : Int) = List.getD (Option.getD o [(0 : Int), (0 : Int), (0 : Int), (0 : Int)]) (3 : Nat) (0 :
  Int) ∧ True) ∧ false = Option.isSome o ∧ True) ∧ ((!Prod.snd y) = false → (4 : Nat) = (4 : Nat) ∧ (4 : Nat) = (4 : Nat) ∧ (4 : Nat) = (4 : Nat) ∧ (List.getD (Prod.fst y) (0 : Nat)
  (0 : Int) = List.getD (Option.getD o [(0 : Int), (0 : Int), (0 : Int), (0 : Int)]) (0 : Nat) (0 : Int) ∧ List.getD (Prod.fst y) (1 : Nat) (0 : Int) = List.getD (Option.getD o [(0 :
  Int), (0 : Int), (0 : Int), (0 : Int)]) (1 : Nat) (0 : Int) ∧ List.getD (Prod.fst y) (2 : Nat) (0 : Int) = List.getD (Option.getD o [(0 : Int), (0 : Int), (0 : Int), (0 : Int)]) (2
  : Nat) (0 : Int) ∧ List.getD (Prod.fst y) (3 : Nat) (0 : Int) = List.getD (Option.getD o [(0 : Int), (0 : Int), (0 : Int), (0 : Int)]) (3 : Nat) (0 : Int) ∧ True) ∧ true =
  Option.isSome o ∧ True)) ∧ ((Ex.op x == (3 : Int)) = false → ((Ex.op x == (4 : Int)) = true → (0 : Nat) + List.length (UnX.D x_1) ≤ List.length (UnX.D x_1) ∧ (2 : Nat) ≤
  List.length (List.take (List.length (UnX.D x_1)) (List.drop (0 : Nat) (UnX.D x_1))) ∧ ∀ (y : List Int × Bool), y = (List.getD (List.take (List.length (UnX.D x_1)) (List.drop (0 :
  Nat) (UnX.D x_1))) (0 : Nat) [], eq4 (List.getD (List.take (List.length (UnX.D x_1)) (List.drop (0 : Nat) (UnX.D x_1))) (0 : Nat) []) (List.getD (List.take (List.length (UnX.D
  x_1)) (List.drop (0 : Nat) (UnX.D x_1))) (1 : Nat) [])) → (4 : Nat) = (4 : Nat) ∧ ((!Prod.snd y) = true → (4 : Nat) = (4 : Nat) ∧ (4 : Nat) = (4 : Nat) ∧ ((0 : Int) = List.getD
  (Option.getD o [(0 : Int), (0 : Int), (0 : Int), (0 : Int)]) (0 : Nat) (0 : Int) ∧ (0 : Int) = List.getD (Option.getD o [(0 : Int), (0 : Int), (0 : Int), (0 : Int)]) (1 : Nat) (0 :
  Int) ∧ (0 : Int) = List.getD (Option.getD o [(0 : Int), (0 : Int), (0 : Int), (0 : Int)]) (2 : Nat) (0 : Int) ∧ (0 : Int) = List.getD (Option.getD o [(0 : Int), (0 : Int), (0 :
  Int), (0 : Int)]) (3 : Nat) (0 : Int) ∧ True) ∧ false = Option.isSome o ∧ True) ∧ ((!Prod.snd y) = false → (4 : Nat) = (4 : Nat) ∧ (4 : Nat) = (4 : Nat) ∧ (4 : Nat) = (4 : Nat) ∧
  (List.getD (Prod.fst y) (0 : Nat) (0 : Int) = List.getD (Option.getD o [(0 : Int), (0 : Int), (0 : Int), (0 : Int)]) (0 : Nat) (0 : Int) ∧ List.getD (Prod.fst y) (1 : Nat) (0 :
  Int) = List.getD (Option.getD o [(0 : Int), (0 : Int), (0 : Int), (0 : Int)]) (1 : Nat) (0 : Int) ∧ List.getD (Prod.fst y) (2 : Nat) (0 : Int) = List.getD (Option.getD o [(0 :
  Int), (0 : Int), (0 : Int), (0 : Int)]) (2 : Nat) (0 : Int) ∧ List.getD (Prod.fst y) (3 : Nat) (0 : Int) = List.getD (Option.getD o [(0 : Int), (0 : Int), (0 : Int), (0 : Int)]) (3
  : Nat) (0 : Int) ∧ True) ∧ true = Option.isSome o ∧ True)) ∧ ((Ex.op x == (4 : Int)) = false → ((Ex.op x == (6 : Int)) = true → (0 : Nat) + List.length (UnX.D x_1) ≤ List.length
  (UnX.D x_1) ∧ (2 : Nat) ≤ List.length (List.take (List.length (UnX.D x_1)) (List.drop (0 : Nat) (UnX.D x_1))) ∧ ∀ (y : List Int × Bool), y = (List.getD (List.take (List.length
  (UnX.D x_1)) (List.drop (0 : Nat) (UnX.D x_1))) (0 : Nat) [], eq4 (List.getD (List.take (List.length (UnX.D x_1)) (List.drop (0 : Nat) (UnX.D x_1))) (0 : Nat) []) (List.getD
  (List.take (List.length (UnX.D x_1)) (List.drop (0 : Nat) (UnX.D x_1))) (1 : Nat) [])) → (4 : Nat) = (4 : Nat) ∧ ((!Prod.snd y) = true → (4 : Nat) = (4 : Nat) ∧ (4 : Nat) = (4 :
  Nat) ∧ ((0 : Int) = List.getD (Option.getD o [(0 : Int), (0 : Int), (0 : Int), (0 : Int)]) (0 : Nat) (0 : Int) ∧ (0 : Int) = List.getD (Option.getD o [(0 : Int), (0 : Int), (0 :
  Int), (0 : Int)]) (1 : Nat) (0 : Int) ∧ (0 : Int) = List.getD (Option.getD o [(0 : Int), (0 : Int), (0 : Int), (0 : Int)]) (2 : Nat) (0 : Int) ∧ (0 : Int) = List.getD (Option.getD
  o [(0 : Int), (0 : Int), (0 : Int), (0 : Int)]) (3 : Nat) (0 : Int) ∧ True) ∧ false = Option.isSome o ∧ True) ∧ ((!Prod.snd y) = false → (4 : Nat) = (4 : Nat) ∧ (4 : Nat) = (4 :
  Nat) ∧ (4 : Nat) = (4 : Nat) ∧ (List.getD (Prod.fst y) (0 : Nat) (0 : Int) = List.getD (Option.getD o [(0 : Int), (0 : Int), (0 : Int), (0 : Int)]) (0 : Nat) (0 : Int) ∧ List.getD
  (Prod.fst y) (1 : Nat) (0 : Int) = List.getD (Option.getD o [(0 : Int), (0 : Int), (0 : Int), (0 : Int)]) (1 : Nat) (0 : Int) ∧ List.getD (Prod.fst y) (2 : Nat) (0 : Int) =
  List.getD (Option.getD o [(0 : Int), (0 : Int), (0 : Int), (0 : Int)]) (2 : Nat) (0 : Int) ∧ List.getD (Prod.fst y) (3 : Nat) (0 : Int) = List.getD (Option.getD o [(0 : Int), (0 :
  Int), (0 : Int), (0 : Int)]) (3 : Nat) (0 : Int) ∧ True) ∧ true = Option.isSome o ∧ True)) ∧ ((Ex.op x == (6 : Int)) = false → ((Ex.op x == (7 : Int)) = true → (0 : Nat) +
  List.length (UnX.D x_1) ≤ List.length (UnX.D x_1) ∧ (2 : Nat) ≤ List.length (List.take (List.length (UnX.D x_1)) (List.drop (0 : Nat) (UnX.D x_1))) ∧ ∀ (y : List Int × Bool), y =
  (List.getD (List.take (List.length (UnX.D x_1)) (List.drop (0 : Nat) (UnX.D x_1))) (0 : Nat) [], eq4 (List.getD (List.take (List.length (UnX.D x_1)) (List.drop (0 : Nat) (UnX.D
  x_1))) (0 : Nat) []) (List.getD (List.take (List.length (UnX.D x_1)) (List.drop (0 : Nat) (UnX.D x_1))) (1 : Nat) [])) → (4 : Nat) = (4 : Nat) ∧ ((!Prod.snd y) = true → (4 : Nat) =
  (4 : Nat) ∧ (4 : Nat) = (4 : Nat) ∧ ((0 : Int) = List.getD (Option.getD o [(0 : Int), (0 : Int), (0 : Int), (0 : Int)]) (0 : Nat) (0 : Int) ∧ (0 : Int) = List.getD (Option.getD o
  [(0 : Int), (0 : Int), (0 : Int), (0 : Int)]) (1 : Nat) (0 : Int) ∧ (0 : Int) = List.getD (Option.getD o [(0 : Int), (0 : Int), (0 : Int), (0 : Int)]) (2 : Nat) (0 : Int) ∧ (0 :
  Int) = List.getD (Option.getD o [(0 : Int), (0 : Int), (0 : Int), (0 : Int)]) (3 : Nat) (0 : Int) ∧ True) ∧ false = Option.isSome o ∧ True) ∧ ((!Prod.snd y) = false → (4 : Nat) =
  (4 : Nat) ∧ (4 : Nat) = (4 : Nat) ∧ (4 : Nat) = (4 : Nat) ∧ (List.getD (Prod.fst y) (0 : Nat) (0 : Int) = List.getD (Option.getD o [(0 : Int), (0 : Int), (0 : Int), (0 : Int)]) (0
  : Nat) (0 : Int) ∧ List.getD (Prod.fst y) (1 : Nat) (0 : Int) = List.getD (Option.getD o [(0 : Int), (0 : Int), (0 : Int), (0 : Int)]) (1 : Nat) (0 : Int) ∧ List.getD (Prod.fst y)
  (2 : Nat) (0 : Int) = List.getD (Option.getD o [(0 : Int), (0 : Int), (0 : Int), (0 : Int)]) (2 : Nat) (0 : Int) ∧ List.getD (Prod.fst y) (3 : Nat) (0 : Int) = List.getD
  (Option.getD o [(0 : Int), (0 : Int), (0 : Int), (0 : Int)]) (3 : Nat) (0 : Int) ∧ True) ∧ true = Option.isSome o ∧ True)) ∧ ((Ex.op x == (7 : Int)) = false → ((Ex.op x == (5 :
  Int)) = true → (0 : Nat) + List.length (UnX.D x_1) ≤ List.length (UnX.D x_1) ∧ (2 : Nat) ≤ List.length (List.take (List.length (UnX.D x_1)) (List.drop (0 : Nat) (UnX.D x_1))) ∧ ∀
  (y : Option (List Int)), y = cmb (1 : Int) (List.getD (List.take (List.length (UnX.D x_1)) (List.drop (0 : Nat) (UnX.D x_1))) (0 : Nat) []) (List.getD (List.take (List.length
  (UnX.D x_1)) (List.drop (0 : Nat) (UnX.D x_1))) (1 : Nat) []) → (4 : Nat) = (4 : Nat) ∧ ((!Option.isSome y) = true → (4 : Nat) = (4 : Nat) ∧ (4 : Nat) = (4 : Nat) ∧ ((0 : Int) =
  List.getD (Option.getD o [(0 : Int), (0 : Int), (0 : Int), (0 : Int)]) (0 : Nat) (0 : Int) ∧ (0 : Int) = List.getD (Option.getD o [(0 : Int), (0 : Int), (0 : Int), (0 : Int)]) (1 :
  Nat) (0 : Int) ∧ (0 : Int) = List.getD (Option.getD o [(0 : Int), (0 : Int), (0 : Int), (0 : Int)]) (2 : Nat) (0 : Int) ∧ (0 : Int) = List.getD (Option.getD o [(0 : Int), (0 :
  Int), (0 : Int), (0 : Int)]) (3 : Nat) (0 : Int) ∧ True) ∧ false = Option.isSome o ∧ True) ∧ ((!Option.isSome y) = false → (4 : Nat) = (4 : Nat) ∧ (4 : Nat) = (4 : Nat) ∧ (4 : Nat)
  = (4 : Nat) ∧ (List.getD (Option.getD y [(0 : Int), (0 : Int), (0 : Int), (0 : Int)]) (0 : Nat) (0 : Int) = List.getD (Option.getD o [(0 : Int), (0 : Int), (0 : Int), (0 : Int)])
  (0 : Nat) (0 : Int) ∧ List.getD (Option.getD y [(0 : Int), (0 : Int), (0 : Int), (0 : Int)]) (1 : Nat) (0 : Int) = List.getD (Option.getD o [(0 : Int), (0 : Int), (0 : Int), (0 :
  Int)]) (1 : Nat) (0 : Int) ∧ List.getD (Option.getD y [(0 : Int), (0 : Int), (0 : Int), (0 : Int)]) (2 : Nat) (0 : Int) = List.getD (Option.getD o [(0 : Int), (0 : Int), (0 : Int),
  (0 : Int)]) (2 : Nat) (0 : Int) ∧ List.getD (Option.getD y [(0 : Int), (0 : Int), (0 : Int), (0 : Int)]) (3 : Nat) (0 : Int) = List.getD (Option.getD o [(0 : Int), (0 : Int), (0 :
  Int), (0 : Int)]) (3 : Nat) (0 : Int) ∧ True) ∧ true = Option.isSome o ∧ True)) ∧ ((Ex.op x == (5 : Int)) = false → ((Ex.op x == (8 : Int)) = true → (0 : Nat) + List.length (UnX.D
  x_1) ≤ List.length (UnX.D x_1) ∧ (2 : Nat) ≤ List.length (List.take (List.length (UnX.D x_1)) (List.drop (0 : Nat) (UnX.D x_1))) ∧ ∀ (y : Option (List Int)), y = cmb (-1 : Int)
  (List.getD (List.take (List.length (UnX.D x_1)) (List.drop (0 : Nat) (UnX.D x_1))) (0 : Nat) []) (List.getD (List.take (List.length (UnX.D x_1)) (List.drop (0 : Nat) (UnX.D x_1)))
  (1 : Nat) []) → (4 : Nat) = (4 : Nat) ∧ ((!Option.isSome y) = true → (4 : Nat) = (4 : Nat) ∧ (4 : Nat) = (4 : Nat) ∧ ((0 : Int) = List.getD (Option.getD o [(0 : Int), (0 : Int), (0
  : Int), (0 : Int)]) (0 : Nat) (0 : Int) ∧ (0 : Int) = List.getD (Option.getD o [(0 : Int), (0 : Int), (0 : Int), (0 : Int)]) (1 : Nat) (0 : Int) ∧ (0 : Int) = List.getD
  (Option.getD o [(0 : Int), (0 : Int), (0 : Int), (0 : Int)]) (2 : Nat) (0 : Int) ∧ (0 : Int) = List.getD (Option.getD o [(0 : Int), (0 : Int), (0 : Int), (0 : Int)]) (3 : Nat) (0 :
  Int) ∧ True) ∧ false = Option.isSome o ∧ True) ∧ ((!Option.isSome y) = false → (4 : Nat) = (4 : Nat) ∧ (4 : Nat) = (4 : Nat) ∧ (4 : Nat) = (4 : Nat) ∧ (List.getD (Option.getD y [(0
  : Int), (0 : Int), (0 : Int), (0 : Int)]) (0 : Nat) (0 : Int) = List.getD (Option.getD o [(0 : Int), (0 : Int), (0 : Int), (0 : Int)]) (0 : Nat) (0 : Int) ∧ List.getD (Option.getD
  y [(0 : Int), (0 : Int), (0 : Int), (0 : Int)]) (1 : Nat) (0 : Int) = List.getD (Option.getD o [(0 : Int), (0 : Int), (0 : Int), (0 : Int)]) (1 : Nat) (0 : Int) ∧ List.getD
  (Option.getD y [(0 : Int), (0 : Int), (0 : Int), (0 : Int)]) (2 : Nat) (0 : Int) = List.getD (Option.getD o [(0 : Int), (0 : Int), (0 : Int), (0 : Int)]) (2 : Nat) (0 : Int) ∧
  List.getD (Option.getD y [(0 : Int), (0 : Int), (0 : Int), (0 : Int)]) (3 : Nat) (0 : Int) = List.getD (Option.getD o [(0 : Int), (0 : Int), (0 : Int), (0 : Int)]) (3 : Nat) (0 :
  Int) ∧ True) ∧ true = Option.isSome o ∧ True)) ∧ ((Ex.op x == (8 : Int)) = false → ((Ex.op x == (9 : Int)) = true → (0 : Nat) + List.length (UnX.D x_1) ≤ List.length (UnX.D x_1) ∧
  (2 : Nat) ≤ List.length (List.take (List.length (UnX.D x_1)) (List.drop (0 : Nat) (UnX.D x_1))) ∧ ∀ (y : Option (List Int)), y = cmb (-1 : Int) (List.getD (List.take (List.length
  (UnX.D x_1)) (List.drop (0 : Nat) (UnX.D x_1))) (0 : Nat) []) (List.getD (List.take (List.length (UnX.D x_1)) (List.drop (0 : Nat) (UnX.D x_1))) (1 : Nat) []) → (4 : Nat) = (4 :
  Nat) ∧ ((!Option.isSome y) = true → (4 : Nat) = (4 : Nat) ∧ (4 : Nat) = (4 : Nat) ∧ ((0 : Int) = List.getD (Option.getD o [(0 : Int), (0 : Int), (0 : Int), (0 : Int)]) (0 : Nat) (0
  : Int) ∧ (0 : Int) = List.getD (Option.getD o [(0 : Int), (0 : Int), (0 : Int), (0 : Int)]) (1 : Nat) (0 : Int) ∧ (0 : Int) = List.getD (Option.getD o [(0 : Int), (0 : Int), (0 :
  Int), (0 : Int)]) (2 : Nat) (0 : Int) ∧ (0 : Int) = List.getD (Option.getD o [(0 : Int), (0 : Int), (0 : Int), (0 : Int)]) (3 : Nat) (0 : Int) ∧ True) ∧ false = Option.isSome o ∧
  True) ∧ ((!Option.isSome y) = false → (4 : Nat) = (4 : Nat) ∧ (4 : Nat) = (4 : Nat) ∧ (4 : Nat) = (4 : Nat) ∧ (List.getD (Option.getD y [(0 : Int), (0 : Int), (0 : Int), (0 :
  Int)]) (0 : Nat) (0 : Int) = List.getD (Option.getD o [(0 : Int), (0 : Int), (0 : Int), (0 : Int)]) (0 : Nat) (0 : Int) ∧ List.getD (Option.getD y [(0 : Int), (0 : Int), (0 : Int),
  (0 : Int)]) (1 : Nat) (0 : Int) = List.getD (Option.getD o [(0 : Int), (0 : Int), (0 : Int), (0 : Int)]) (1 : Nat) (0 : Int) ∧ List.getD (Option.getD y [(0 : Int), (0 : Int), (0 :
  Int), (0 : Int)]) (2 : Nat) (0 : Int) = List.getD (Option.getD o [(0 : Int), (0 : Int), (0 : Int), (0 : Int)]) (2 : Nat) (0 : Int) ∧ List.getD (Option.getD y [(0 : Int), (0 : Int),
  (0 : Int), (0 : Int)]) (3 : Nat) (0 : Int) = List.getD (Option.getD o [(0 : Int), (0 : Int), (0 : Int), (0 : Int)]) (3 : Nat) (0 : Int) ∧ True) ∧ true = Option.isSome o ∧ True)) ∧
  ((Ex.op x == (9 : Int)) = false → ((Ex.op x == (10 : Int)) = true → (0 : Nat) + List.length (UnX.D x_1) ≤ List.length (UnX.D x_1) ∧ (2 : Nat) ≤ List.length (List.take (List.length
  (UnX.D x_1)) (List.drop (0 : Nat) (UnX.D x_1))) ∧ ∀ (y : Option (List Int)), y = cmb (-1 : Int) (List.getD (List.take (List.length (UnX.D x_1)) (List.drop (0 : Nat) (UnX.D x_1)))
  (0 : Nat) []) (List.getD (List.take (List.length (UnX.D x_1)) (List.drop (0 : Nat) (UnX.D x_1))) (1 : Nat) []) → (4 : Nat) = (4 : Nat) ∧ ((!Option.isSome y) = true → (4 : Nat) = (4
  : Nat) ∧ (4 : Nat) = (4 : Nat) ∧ ((0 : Int) = List.getD (Option.getD o [(0 : Int), (0 : Int), (0 : Int), (0 : Int)]) (0 : Nat) (0 : Int) ∧ (0 : Int) = List.getD (Option.getD o [(0
  : Int), (0 : Int), (0 : Int), (0 : Int)]) (1 : Nat) (0 : Int) ∧ (0 : Int) = List.getD (Option.getD o [(0 : Int), (0 : Int), (0 : Int), (0 : Int)]) (2 : Nat) (0 : Int) ∧ (0 : Int) =
  List.getD (Option.getD o [(0 : Int), (0 : Int), (0 : Int), (0 : Int)]) (3 : Nat) (0 : Int) ∧ True) ∧ false = Option.isSome o ∧ True) ∧ ((!Option.isSome y) = false → (4 : Nat) = (4
  : Nat) ∧ (4 : Nat) = (4 : Nat) ∧ (4 : Nat) = (4 : Nat) ∧ (List.getD (Option.getD y [(0 : Int), (0 : Int), (0 : Int), (0 : Int)]) (0 : Nat) (0 : Int) = List.getD (Option.getD o [(0
  : Int), (0 : Int), (0 : Int), (0 : Int)]) (0 : Nat) (0 : Int) ∧ List.getD (Option.getD y [(0 : Int), (0 : Int), (0 : Int), (0 : Int)]) (1 : Nat) (0 : Int) = List.getD (Option.getD
  o [(0 : Int), (0 : Int), (0 : Int), (0 : Int)]) (1 : Nat) (0 : Int) ∧ List.getD (Option.getD y [(0 : Int), (0 : Int), (0 : Int), (0 : Int)]) (2 : Nat) (0 : Int) = List.getD
  (Option.getD o [(0 : Int), (0 : Int), (0 : Int), (0 : Int)]) (2 : Nat) (0 : Int) ∧ List.getD (Option.getD y [(0 : Int), (0 : Int), (0 : Int), (0 : Int)]) (3 : Nat) (0 : Int) =
  List.getD (Option.getD o [(0 : Int), (0 : Int), (0 : Int), (0 : Int)]) (3 : Nat) (0 : Int) ∧ True) ∧ true = Option.isSome o ∧ True)) ∧ ((Ex.op x == (10 : Int)) = false → ((Ex.op x
  == (11 : Int)) = true → (0 : Nat) + List.length (UnX.D x_1) ≤ List.length (UnX.D x_1) ∧ (4 : Nat) ≤ List.length (List.take (List.length (UnX.D x_1)) (List.drop (0 : Nat) (UnX.D
  x_1))) ∧ ∀ (y : List Int × Bool), y = (List.getD (List.take (List.length (UnX.D x_1)) (List.drop (0 : Nat) (UnX.D x_1))) (2 : Nat) [], eq4 (List.getD (List.take (List.length (UnX.D
  x_1)) (List.drop (0 : Nat) (UnX.D x_1))) (0 : Nat) []) (List.getD (List.take (List.length (UnX.D x_1)) (List.drop (0 : Nat) (UnX.D x_1))) (1 : Nat) []) && eq4 (List.getD (List.take
  (List.length (UnX.D x_1)) (List.drop (0 : Nat) (UnX.D x_1))) (2 : Nat) []) (List.getD (List.take (List.length (UnX.D x_1)) (List.drop (0 : Nat) (UnX.D x_1))) (3 : Nat) [])) → (4 :
  Nat) = (4 : Nat) ∧ ((!Prod.snd y) = true → (4 : Nat) = (4 : Nat) ∧ (4 : Nat) = (4 : Nat) ∧ ((0 : Int) = List.getD (Option.getD o [(0 : Int), (0 : Int), (0 : Int), (0 : Int)]) (0 :
  Nat) (0 : Int) ∧ (0 : Int) = List.getD (Option.getD o [(0 : Int), (0 : Int), (0 : Int), (0 : Int)]) (1 : Nat) (0 : Int) ∧ (0 : Int) = List.getD (Option.getD o [(0 : Int), (0 :
  Int), (0 : Int), (0 : Int)]) (2 : Nat) (0 : Int) ∧ (0 : Int) = List.getD (Option.getD o [(0 : Int), (0 : Int), (0 : Int), (0 : Int)]) (3 : Nat) (0 : Int) ∧ True) ∧ false =
  Option.isSome o ∧ True) ∧ ((!Prod.snd y) = false → (4 : Nat) = (4 : Nat) ∧ (4 : Nat) = (4 : Nat) ∧ (4 : Nat) = (4 : Nat) ∧ (List.getD (Prod.fst y) (0 : Nat) (0 : Int) = List.getD
  (Option.getD o [(0 : Int), (0 : Int), (0 : Int), (0 : Int)]) (0 : Nat) (0 : Int) ∧ List.getD (Prod.fst y) (1 : Nat) (0 : Int) = List.getD (Option.getD o [(0 : Int), (0 : Int), (0 :
  Int), (0 : Int)]) (1 : Nat) (0 : Int) ∧ List.getD (Prod.fst y) (2 : Nat) (0 : Int) = List.getD (Option.getD o [(0 : Int), (0 : Int), (0 : Int), (0 : Int)]) (2 : Nat) (0 : Int) ∧
  List.getD (Prod.fst y) (3 : Nat) (0 : Int) = List.getD (Option.getD o [(0 : Int), (0 : Int), (0 : Int), (0 : Int)]) (3 : Nat) (0 : Int) ∧ True) ∧ true = Option.isSome o ∧ True)) ∧
  ((Ex.op x == (11 : Int)) = false → False))))))))))) ∧ ∀ (x_1 : UnX), R false x_1 → (decide ((↑(UnX.k x_1) : Int) < (↑(List.length (Ex.l x)) : Int)) = true → (0 : Int) ≤ (↑(UnX.k
  x_1) : Int) ∧ (↑(UnX.k x_1) : Int) + (1 : Int) ≤ (↑(List.length (Ex.l x)) : Int) ∧ ∀ (x_2 : Ex), (Ex.l x)[Int.toNat (↑(UnX.k x_1) : Int)]? = some x_2 → SV.pmap rulesEs = rulesV ∧
  (Ex.sz (Ex.mk (Ex.op x_2) (Ex.n x_2) (Ex.d0 x_2) (Ex.d1 x_2) (Ex.d2 x_2) (Ex.d3 x_2) (Ex.l x_2)) + (1 : Nat) ≤ m ∧ formX (Ex.mk (Ex.op x_2) (Ex.n x_2) (Ex.d0 x_2) (Ex.d1 x_2)
  (Ex.d2 x_2) (Ex.d3 x_2) (Ex.l x_2)) = true) ∧ ∀ (o_1 : Option (List Int)), o_1 = unitX (Ex.mk (Ex.op x_2) (Ex.n x_2) (Ex.d0 x_2) (Ex.d1 x_2) (Ex.d2 x_2) (Ex.d3 x_2) (Ex.l x_2)) →
  (4 : Nat) = (4 : Nat) ∧ ((!Option.isSome o_1) = true → (4 : Nat) = (4 : Nat) ∧ (4 : Nat) = (4 : Nat) ∧ ((0 : Int) = List.getD (Option.getD o [(0 : Int), (0 : Int), (0 : Int), (0 :
  Int)]) (0 : Nat) (0 : Int) ∧ (0 : Int) = List.getD (Option.getD o [(0 : Int), (0 : Int), (0 : Int), (0 : Int)]) (1 : Nat) (0 : Int) ∧ (0 : Int) = List.getD (Option.getD o [(0 :
  Int), (0 : Int), (0 : Int), (0 : Int)]) (2 : Nat) (0 : Int) ∧ (0 : Int) = List.getD (Option.getD o [(0 : Int), (0 : Int), (0 : Int), (0 : Int)]) (3 : Nat) (0 : Int) ∧ True) ∧ false
  = Option.isSome o ∧ True) ∧ ((!Option.isSome o_1) = false → (4 : Nat) = (4 : Nat) ∧ ((∃ (x' : UnX), R true x' ∧ x'.2 + (1 : Nat) ≤ x_1.2 ∧ true = true ∧ ((rulesEs = rulesEs ∧ true
  = true) ∧ (0 : Nat) = (0 : Nat) ∧ (0 : Nat) = (0 : Nat) ∧ ((0 : Nat) = (0 : Nat) ∧ (1 : Nat) = List.length (UnX.D x') ∧ True) ∧ (Ex.l x = Ex.l x ∧ (false = true → false = true)) ∧
  (↑(List.length (Ex.l x)) : Int) = (↑(List.length (Ex.l x)) : Int) ∧ wr IntKind.i64 ((↑(UnX.k x_1) : Int) + (1 : Int)) = (↑(UnX.k x') : Int) ∧ True) ∧ ([[List.getD (Option.getD o_1
  [(0 : Int), (0 : Int), (0 : Int), (0 : Int)]) (0 : Nat) (0 : Int), List.getD (Option.getD o_1 [(0 : Int), (0 : Int), (0 : Int), (0 : Int)]) (1 : Nat) (0 : Int), List.getD
  (Option.getD o_1 [(0 : Int), (0 : Int), (0 : Int), (0 : Int)]) (2 : Nat) (0 : Int), List.getD (Option.getD o_1 [(0 : Int), (0 : Int), (0 : Int), (0 : Int)]) (3 : Nat) (0 : Int)]] =
  UnX.D x' ∧ (0 : Nat) = (0 : Nat)) ∧ (Ex.op x = Ex.op x ∧ Ex.n x = Ex.n x ∧ Ex.d0 x = Ex.d0 x ∧ Ex.d1 x = Ex.d1 x ∧ Ex.d2 x = Ex.d2 x ∧ Ex.d3 x = Ex.d3 x ∧ (Ex.l x = Ex.l x ∧ (false
  = true → false = true)) ∧ True) ∧ ([(0 : Int), (0 : Int), (0 : Int), (0 : Int)] = [(0 : Int), (0 : Int), (0 : Int), (0 : Int)] ∧ (0 : Nat) = (0 : Nat)) ∧ True) ∨ ∃ (x' : UnX), R
  false x' ∧ x'.2 + (1 : Nat) ≤ x_1.2 ∧ true = true ∧ ((rulesEs = rulesEs ∧ true = true) ∧ (0 : Nat) = (0 : Nat) ∧ (0 : Nat) = (0 : Nat) ∧ False ∧ (Ex.l x = Ex.l x ∧ (false = true →
  false = true)) ∧ (↑(List.length (Ex.l x)) : Int) = (↑(List.length (Ex.l x)) : Int) ∧ wr IntKind.i64 ((↑(UnX.k x_1) : Int) + (1 : Int)) = (↑(UnX.k x') : Int) ∧ True) ∧ (Ex.op x =
  Ex.op x ∧ Ex.n x = Ex.n x ∧ Ex.d0 x = Ex.d0 x ∧ Ex.d1 x = Ex.d1 x ∧ Ex.d2 x = Ex.d2 x ∧ Ex.d3 x = Ex.d3 x ∧ (Ex.l x = Ex.l x ∧ (false = true → false = true)) ∧ True) ∧ ([(0 : Int),
  (0 : Int), (0 : Int), (0 : Int)] = [(0 : Int), (0 : Int), (0 : Int), (0 : Int)] ∧ (0 : Nat) = (0 : Nat)) ∧ True))) ∧ (decide ((↑(UnX.k x_1) : Int) < (↑(List.length (Ex.l x)) :
  Int)) = false → ((Ex.op x == (3 : Int)) = true → (2 : Nat) ≤ (0 : Nat) ∧ ∀ (y : List Int × Bool), y = (List.getD [] (0 : Nat) [], eq4 (List.getD [] (0 : Nat) []) (List.getD [] (1 :
  Nat) [])) → (4 : Nat) = (4 : Nat) ∧ ((!Prod.snd y) = true → (4 : Nat) = (4 : Nat) ∧ (4 : Nat) = (4 : Nat) ∧ ((0 : Int) = List.getD (Option.getD o [(0 : Int), (0 : Int), (0 : Int),
  (0 : Int)]) (0 : Nat) (0 : Int) ∧ (0 : Int) = List.getD (Option.getD o [(0 : Int), (0 : Int), (0 : Int), (0 : Int)]) (1 : Nat) (0 : Int) ∧ (0 : Int) = List.getD (Option.getD o [(0
  : Int), (0 : Int), (0 : Int), (0 : Int)]) (2 : Nat) (0 : Int) ∧ (0 : Int) = List.getD (Option.getD o [(0 : Int), (0 : Int), (0 : Int), (0 : Int)]) (3 : Nat) (0 : Int) ∧ True) ∧
  false = Option.isSome o ∧ True) ∧ ((!Prod.snd y) = false → (4 : Nat) = (4 : Nat) ∧ (4 : Nat) = (4 : Nat) ∧ (4 : Nat) = (4 : Nat) ∧ (List.getD (Prod.fst y) (0 : Nat) (0 : Int) =
  List.getD (Option.getD o [(0 : Int), (0 : Int), (0 : Int), (0 : Int)]) (0 : Nat) (0 : Int) ∧ List.getD (Prod.fst y) (1 : Nat) (0 : Int) = List.getD (Option.getD o [(0 : Int), (0 :
  Int), (0 : Int), (0 : Int)]) (1 : Nat) (0 : Int) ∧ List.getD (Prod.fst y) (2 : Nat) (0 : Int) = List.getD (Option.getD o [(0 : Int), (0 : Int), (0 : Int), (0 : Int)]) (2 : Nat) (0
  : Int) ∧ List.getD (Prod.fst y) (3 : Nat) (0 : Int) = List.getD (Option.getD o [(0 : Int), (0 : Int), (0 : Int), (0 : Int)]) (3 : Nat) (0 : Int) ∧ True) ∧ true = Option.isSome o ∧
  True)) ∧ ((Ex.op x == (3 : Int)) = false → ((Ex.op x == (4 : Int)) = true → (2 : Nat) ≤ (0 : Nat) ∧ ∀ (y : List Int × Bool), y = (List.getD [] (0 : Nat) [], eq4 (List.getD [] (0 :
  Nat) []) (List.getD [] (1 : Nat) [])) → (4 : Nat) = (4 : Nat) ∧ ((!Prod.snd y) = true → (4 : Nat) = (4 : Nat) ∧ (4 : Nat) = (4 : Nat) ∧ ((0 : Int) = List.getD (Option.getD o [(0 :
  Int), (0 : Int), (0 : Int), (0 : Int)]) (0 : Nat) (0 : Int) ∧ (0 : Int) = List.getD (Option.getD o [(0 : Int), (0 : Int), (0 : Int), (0 : Int)]) (1 : Nat) (0 : Int) ∧ (0 : Int) =
  List.getD (Option.getD o [(0 : Int), (0 : Int), (0 : Int), (0 : Int)]) (2 : Nat) (0 : Int) ∧ (0 : Int) = List.getD (Option.getD o [(0 : Int), (0 : Int), (0 : Int), (0 : Int)]) (3 :
  Nat) (0 : Int) ∧ True) ∧ false = Option.isSome o ∧ True) ∧ ((!Prod.snd y) = false → (4 : Nat) = (4 : Nat) ∧ (4 : Nat) = (4 : Nat) ∧ (4 : Nat) = (4 : Nat) ∧ (List.getD (Prod.fst y)
  (0 : Nat) (0 : Int) = List.getD (Option.getD o [(0 : Int), (0 : Int), (0 : Int), (0 : Int)]) (0 : Nat) (0 : Int) ∧ List.getD (Prod.fst y) (1 : Nat) (0 : Int) = List.getD
  (Option.getD o [(0 : Int), (0 : Int), (0 : Int), (0 : Int)]) (1 : Nat) (0 : Int) ∧ List.getD (Prod.fst y) (2 : Nat) (0 : Int) = List.getD (Option.getD o [(0 : Int), (0 : Int), (0 :
  Int), (0 : Int)]) (2 : Nat) (0 : Int) ∧ List.getD (Prod.fst y) (3 : Nat) (0 : Int) = List.getD (Option.getD o [(0 : Int), (0 : Int), (0 : Int), (0 : Int)]) (3 : Nat) (0 : Int) ∧
  True) ∧ true = Option.isSome o ∧ True)) ∧ ((Ex.op x == (4 : Int)) = false → ((Ex.op x == (6 : Int)) = true → (2 : Nat) ≤ (0 : Nat) ∧ ∀ (y : List Int × Bool), y = (List.getD [] (0 :
  Nat) [], eq4 (List.getD [] (0 : Nat) []) (List.getD [] (1 : Nat) [])) → (4 : Nat) = (4 : Nat) ∧ ((!Prod.snd y) = true → (4 : Nat) = (4 : Nat) ∧ (4 : Nat) = (4 : Nat) ∧ ((0 : Int) =
  List.getD (Option.getD o [(0 : Int), (0 : Int), (0 : Int), (0 : Int)]) (0 : Nat) (0 : Int) ∧ (0 : Int) = List.getD (Option.getD o [(0 : Int), (0 : Int), (0 : Int), (0 : Int)]) (1 :
  Nat) (0 : Int) ∧ (0 : Int) = List.getD (Option.getD o [(0 : Int), (0 : Int), (0 : Int), (0 : Int)]) (2 : Nat) (0 : Int) ∧ (0 : Int) = List.getD (Option.getD o [(0 : Int), (0 :
  Int), (0 : Int), (0 : Int)]) (3 : Nat) (0 : Int) ∧ True) ∧ false = Option.isSome o ∧ True) ∧ ((!Prod.snd y) = false → (4 : Nat) = (4 : Nat) ∧ (4 : Nat) = (4 : Nat) ∧ (4 : Nat) = (4
  : Nat) ∧ (List.getD (Prod.fst y) (0 : Nat) (0 : Int) = List.getD (Option.getD o [(0 : Int), (0 : Int), (0 : Int), (0 : Int)]) (0 : Nat) (0 : Int) ∧ List.getD (Prod.fst y) (1 : Nat)
  (0 : Int) = List.getD (Option.getD o [(0 : Int), (0 : Int), (0 : Int), (0 : Int)]) (1 : Nat) (0 : Int) ∧ List.getD (Prod.fst y) (2 : Nat) (0 : Int) = List.getD (Option.getD o [(0 :
  Int), (0 : Int), (0 : Int), (0 : Int)]) (2 : Nat) (0 : Int) ∧ List.getD (Prod.fst y) (3 : Nat) (0 : Int) = List.getD (Option.getD o [(0 : Int), (0 : Int), (0 : Int), (0 : Int)]) (3
  : Nat) (0 : Int) ∧ True) ∧ true = Option.isSome o ∧ True)) ∧ ((Ex.op x == (6 : Int)) = false → ((Ex.op x == (7 : Int)) = true → (2 : Nat) ≤ (0 : Nat) ∧ ∀ (y : List Int × Bool), y =
  (List.getD [] (0 : Nat) [], eq4 (List.getD [] (0 : Nat) []) (List.getD [] (1 : Nat) [])) → (4 : Nat) = (4 : Nat) ∧ ((!Prod.snd y) = true → (4 : Nat) = (4 : Nat) ∧ (4 : Nat) = (4 :
  Nat) ∧ ((0 : Int) = List.getD (Option.getD o [(0 : Int), (0 : Int), (0 : Int), (0 : Int)]) (0 : Nat) (0 : Int) ∧ (0 : Int) = List.getD (Option.getD o [(0 : Int), (0 : Int), (0 :
  Int), (0 : Int)]) (1 : Nat) (0 : Int) ∧ (0 : Int) = List.getD (Option.getD o [(0 : Int), (0 : Int), (0 : Int), (0 : Int)]) (2 : Nat) (0 : Int) ∧ (0 : Int) = List.getD (Option.getD
  o [(0 : Int), (0 : Int), (0 : Int), (0 : Int)]) (3 : Nat) (0 : Int) ∧ True) ∧ false = Option.isSome o ∧ True) ∧ ((!Prod.snd y) = false → (4 : Nat) = (4 : Nat) ∧ (4 : Nat) = (4 :
  Nat) ∧ (4 : Nat) = (4 : Nat) ∧ (List.getD (Prod.fst y) (0 : Nat) (0 : Int) = List.getD (Option.getD o [(0 : Int), (0 : Int), (0 : Int), (0 : Int)]) (0 : Nat) (0 : Int) ∧ List.getD
  (Prod.fst y) (1 : Nat) (0 : Int) = List.getD (Option.getD o [(0 : Int), (0 : Int), (0 : Int), (0 : Int)]) (1 : Nat) (0 : Int) ∧ List.getD (Prod.fst y) (2 : Nat) (0 : Int) =
  List.getD (Option.getD o [(0 : Int), (0 : Int), (0 : Int), (0 : Int)]) (2 : Nat) (0 : Int) ∧ List.getD (Prod.fst y) (3 : Nat) (0 : Int) = List.getD (Option.getD o [(0 : Int), (0 :
  Int), (0 : Int), (0 : Int)]) (3 : Nat) (0 : Int) ∧ True) ∧ true = Option.isSome o ∧ True)) ∧ ((Ex.op x == (7 : Int)) = false → ((Ex.op x == (5 : Int)) = true → (2 : Nat) ≤ (0 :
  Nat) ∧ ∀ (y : Option (List Int)), y = cmb (1 : Int) (List.getD [] (0 : Nat) []) (List.getD [] (1 : Nat) []) → (4 : Nat) = (4 : Nat) ∧ ((!Option.isSome y) = true → (4 : Nat) = (4 :
  Nat) ∧ (4 : Nat) = (4 : Nat) ∧ ((0 : Int) = List.getD (Option.getD o [(0 : Int), (0 : Int), (0 : Int), (0 : Int)]) (0 : Nat) (0 : Int) ∧ (0 : Int) = List.getD (Option.getD o [(0 :
  Int), (0 : Int), (0 : Int), (0 : Int)]) (1 : Nat) (0 : Int) ∧ (0 : Int) = List.getD (Option.getD o [(0 : Int), (0 : Int), (0 : Int), (0 : Int)]) (2 : Nat) (0 : Int) ∧ (0 : Int) =
  List.getD (Option.getD o [(0 : Int), (0 : Int), (0 : Int), (0 : Int)]) (3 : Nat) (0 : Int) ∧ True) ∧ false = Option.isSome o ∧ True) ∧ ((!Option.isSome y) = false → (4 : Nat) = (4
  : Nat) ∧ (4 : Nat) = (4 : Nat) ∧ (4 : Nat) = (4 : Nat) ∧ (List.getD (Option.getD y [(0 : Int), (0 : Int), (0 : Int), (0 : Int)]) (0 : Nat) (0 : Int) = List.getD (Option.getD o [(0
  : Int), (0 : Int), (0 : Int), (0 : Int)]) (0 : Nat) (0 : Int) ∧ List.getD (Option.getD y [(0 : Int), (0 : Int), (0 : Int), (0 : Int)]) (1 : Nat) (0 : Int) = List.getD (Option.getD
  o [(0 : Int), (0 : Int), (0 : Int), (0 : Int)]) (1 : Nat) (0 : Int) ∧ List.getD (Option.getD y [(0 : Int), (0 : Int), (0 : Int), (0 : Int)]) (2 : Nat) (0 : Int) = List.getD
  (Option.getD o [(0 : Int), (0 : Int), (0 : Int), (0 : Int)]) (2 : Nat) (0 : Int) ∧ List.getD (Option.getD y [(0 : Int), (0 : Int), (0 : Int), (0 : Int)]) (3 : Nat) (0 : Int) =
  List.getD (Option.getD o [(0 : Int), (0 : Int), (0 : Int), (0 : Int)]) (3 : Nat) (0 : Int) ∧ True) ∧ true = Option.isSome o ∧ True)) ∧ ((Ex.op x == (5 : Int)) = false → ((Ex.op x
  == (8 : Int)) = true → (2 : Nat) ≤ (0 : Nat) ∧ ∀ (y : Option (List Int)), y = cmb (-1 : Int) (List.getD [] (0 : Nat) []) (List.getD [] (1 : Nat) []) → (4 : Nat) = (4 : Nat) ∧
  ((!Option.isSome y) = true → (4 : Nat) = (4 : Nat) ∧ (4 : Nat) = (4 : Nat) ∧ ((0 : Int) = List.getD (Option.getD o [(0 : Int), (0 : Int), (0 : Int), (0 : Int)]) (0 : Nat) (0 : Int)
  ∧ (0 : Int) = List.getD (Option.getD o [(0 : Int), (0 : Int), (0 : Int), (0 : Int)]) (1 : Nat) (0 : Int) ∧ (0 : Int) = List.getD (Option.getD o [(0 : Int), (0 : Int), (0 : Int), (0
  : Int)]) (2 : Nat) (0 : Int) ∧ (0 : Int) = List.getD (Option.getD o [(0 : Int), (0 : Int), (0 : Int), (0 : Int)]) (3 : Nat) (0 : Int) ∧ True) ∧ false = Option.isSome o ∧ True) ∧
  ((!Option.isSome y) = false → (4 : Nat) = (4 : Nat) ∧ (4 : Nat) = (4 : Nat) ∧ (4 : Nat) = (4 : Nat) ∧ (List.getD (Option.getD y [(0 : Int), (0 : Int), (0 : Int), (0 : Int)]) (0 :
  Nat) (0 : Int) = List.getD (Option.getD o [(0 : Int), (0 : Int), (0 : Int), (0 : Int)]) (0 : Nat) (0 : Int) ∧ List.getD (Option.getD y [(0 : Int), (0 : Int), (0 : Int), (0 : Int)])
  (1 : Nat) (0 : Int) = List.getD (Option.getD o [(0 : Int), (0 : Int), (0 : Int), (0 : Int)]) (1 : Nat) (0 : Int) ∧ List.getD (Option.getD y [(0 : Int), (0 : Int), (0 : Int), (0 :
  Int)]) (2 : Nat) (0 : Int) = List.getD (Option.getD o [(0 : Int), (0 : Int), (0 : Int), (0 : Int)]) (2 : Nat) (0 : Int) ∧ List.getD (Option.getD y [(0 : Int), (0 : Int), (0 : Int),
  (0 : Int)]) (3 : Nat) (0 : Int) = List.getD (Option.getD o [(0 : Int), (0 : Int), (0 : Int), (0 : Int)]) (3 : Nat) (0 : Int) ∧ True) ∧ true = Option.isSome o ∧ True)) ∧ ((Ex.op x
  == (8 : Int)) = false → ((Ex.op x == (9 : Int)) = true → (2 : Nat) ≤ (0 : Nat) ∧ ∀ (y : Option (List Int)), y = cmb (-1 : Int) (List.getD [] (0 : Nat) []) (List.getD [] (1 : Nat)
  []) → (4 : Nat) = (4 : Nat) ∧ ((!Option.isSome y) = true → (4 : Nat) = (4 : Nat) ∧ (4 : Nat) = (4 : Nat) ∧ ((0 : Int) = List.getD (Option.getD o [(0 : Int), (0 : Int), (0 : Int),
  (0 : Int)]) (0 : Nat) (0 : Int) ∧ (0 : Int) = List.getD (Option.getD o [(0 : Int), (0 : Int), (0 : Int), (0 : Int)]) (1 : Nat) (0 : Int) ∧ (0 : Int) = List.getD (Option.getD o [(0
  : Int), (0 : Int), (0 : Int), (0 : Int)]) (2 : Nat) (0 : Int) ∧ (0 : Int) = List.getD (Option.getD o [(0 : Int), (0 : Int), (0 : Int), (0 : Int)]) (3 : Nat) (0 : Int) ∧ True) ∧
  false = Option.isSome o ∧ True) ∧ ((!Option.isSome y) = false → (4 : Nat) = (4 : Nat) ∧ (4 : Nat) = (4 : Nat) ∧ (4 : Nat) = (4 : Nat) ∧ (List.getD (Option.getD y [(0 : Int), (0 :
  Int), (0 : Int), (0 : Int)]) (0 : Nat) (0 : Int) = List.getD (Option.getD o [(0 : Int), (0 : Int), (0 : Int), (0 : Int)]) (0 : Nat) (0 : Int) ∧ List.getD (Option.getD y [(0 : Int),
  (0 : Int), (0 : Int), (0 : Int)]) (1 : Nat) (0 : Int) = List.getD (Option.getD o [(0 : Int), (0 : Int), (0 : Int), (0 : Int)]) (1 : Nat) (0 : Int) ∧ List.getD (Option.getD y [(0 :
  Int), (0 : Int), (0 : Int), (0 : Int)]) (2 : Nat) (0 : Int) = List.getD (Option.getD o [(0 : Int), (0 : Int), (0 : Int), (0 : Int)]) (2 : Nat) (0 : Int) ∧ List.getD (Option.getD y
  [(0 : Int), (0 : Int), (0 : Int), (0 : Int)]) (3 : Nat) (0 : Int) = List.getD (Option.getD o [(0 : Int), (0 : Int), (0 : Int), (0 : Int)]) (3 : Nat) (0 : Int) ∧ True) ∧ true =
  Option.isSome o ∧ True)) ∧ ((Ex.op x == (9 : Int)) = false → ((Ex.op x == (10 : Int)) = true → (2 : Nat) ≤ (0 : Nat) ∧ ∀ (y : Option (List Int)), y = cmb (-1 : Int) (List.getD []
  (0 : Nat) []) (List.getD [] (1 : Nat) []) → (4 : Nat) = (4 : Nat) ∧ ((!Option.isSome y) = true → (4 : Nat) = (4 : Nat) ∧ (4 : Nat) = (4 : Nat) ∧ ((0 : Int) = List.getD (Option.getD
  o [(0 : Int), (0 : Int), (0 : Int), (0 : Int)]) (0 : Nat) (0 : Int) ∧ (0 : Int) = List.getD (Option.getD o [(0 : Int), (0 : Int), (0 : Int), (0 : Int)]) (1 : Nat) (0 : Int) ∧ (0 :
  Int) = List.getD (Option.getD o [(0 : Int), (0 : Int), (0 : Int), (0 : Int)]) (2 : Nat) (0 : Int) ∧ (0 : Int) = List.getD (Option.getD o [(0 : Int), (0 : Int), (0 : Int), (0 :
  Int)]) (3 : Nat) (0 : Int) ∧ True) ∧ false = Option.isSome o ∧ True) ∧ ((!Option.isSome y) = false → (4 : Nat) = (4 : Nat) ∧ (4 : Nat) = (4 : Nat) ∧ (4 : Nat) = (4 : Nat) ∧
  (List.getD (Option.getD y [(0 : Int), (0 : Int), (0 : Int), (0 : Int)]) (0 : Nat) (0 : Int) = List.getD (Option.getD o [(0 : Int), (0 : Int), (0 : Int), (0 : Int)]) (0 : Nat) (0 :
  Int) ∧ List.getD (Option.getD y [(0 : Int), (0 : Int), (0 : Int), (0 : Int)]) (1 : Nat) (0 : Int) = List.getD (Option.getD o [(0 : Int), (0 : Int), (0 : Int), (0 : Int)]) (1 : Nat)
  (0 : Int) ∧ List.getD (Option.getD y [(0 : Int), (0 : Int), (0 : Int), (0 : Int)]) (2 : Nat) (0 : Int) = List.getD (Option.getD o [(0 : Int), (0 : Int), (0 : Int), (0 : Int)]) (2 :
  Nat) (0 : Int) ∧ List.getD (Option.getD y [(0 : Int), (0 : Int), (0 : Int), (0 : Int)]) (3 : Nat) (0 : Int) = List.getD (Option.getD o [(0 : Int), (0 : Int), (0 : Int), (0 : Int)])
  (3 : Nat) (0 : Int) ∧ True) ∧ true = Option.isSome o ∧ True)) ∧ ((Ex.op x == (10 : Int)) = false → ((Ex.op x == (11 : Int)) = true → (4 : Nat) ≤ (0 : Nat) ∧ ∀ (y : List Int ×
  Bool), y = (List.getD [] (2 : Nat) [], eq4 (List.getD [] (0 : Nat) []) (List.getD [] (1 : Nat) []) && eq4 (List.getD [] (2 : Nat) []) (List.getD [] (3 : Nat) [])) → (4 : Nat) = (4
  : Nat) ∧ ((!Prod.snd y) = true → (4 : Nat) = (4 : Nat) ∧ (4 : Nat) = (4 : Nat) ∧ ((0 : Int) = List.getD (Option.getD o [(0 : Int), (0 : Int), (0 : Int), (0 : Int)]) (0 : Nat) (0 :
  Int) ∧ (0 : Int) = List.getD (Option.getD o [(0 : Int), (0 : Int), (0 : Int), (0 : Int)]) (1 : Nat) (0 : Int) ∧ (0 : Int) = List.getD (Option.getD o [(0 : Int), (0 : Int), (0 :
  Int), (0 : Int)]) (2 : Nat) (0 : Int) ∧ (0 : Int) = List.getD (Option.getD o [(0 : Int), (0 : Int), (0 : Int), (0 : Int)]) (3 : Nat) (0 : Int) ∧ True) ∧ false = Option.isSome o ∧
  True) ∧ ((!Prod.snd y) = false → (4 : Nat) = (4 : Nat) ∧ (4 : Nat) = (4 : Nat) ∧ (4 : Nat) = (4 : Nat) ∧ (List.getD (Prod.fst y) (0 : Nat) (0 : Int) = List.getD (Option.getD o [(0
  : Int), (0 : Int), (0 : Int), (0 : Int)]) (0 : Nat) (0 : Int) ∧ List.getD (Prod.fst y) (1 : Nat) (0 : Int) = List.getD (Option.getD o [(0 : Int), (0 : Int), (0 : Int), (0 : Int)])
  (1 : Nat) (0 : Int) ∧ List.getD (Prod.fst y) (2 : Nat) (0 : Int) = List.getD (Option.getD o [(0 : Int), (0 : Int), (0 : Int), (0 : Int)]) (2 : Nat) (0 : Int) ∧ List.getD (Prod.fst
  y) (3 : Nat) (0 : Int) = List.getD (Option.getD o [(0 : Int), (0 : Int), (0 : Int), (0 : Int)]) (3 : Nat) (0 : Int) ∧ True) ∧ true = Option.isSome o ∧ True)) ∧ ((Ex.op x == (11 :
  Int)) = false → False))))))))))))
  ) := by kernel_rfl
--@end
theorem attr_tab : ∀ k : Nat, k < 16 → [[(0 : Int), 0, 0, 0], [0, 0, 0, 0], [0, 0, 0, 0], [0, 0, 0, 0], [0, 0, 0, 0], [0, 0, 0, 1], [0, 0, 1, 0], [0, 1, 0, 0], [0, 1, 0, 0], [0, 0, 0, 0], [1, 0, 0, 0], [1, 0, 0, 0], [0, 0, 0, 0], [0, 0, 0, 0], [0, 0, 0, 0], [0, 0, 0, 0]][k]? = some (attrD (k : Int)) := by decide
theorem is4_row {d : List Int} (h : Is4 d) : [d.getD 0 0, d.getD 1 0, d.getD 2 0, d.getD 3 0] = d := by
  obtain ⟨a, b, c, e, rfl⟩ := h
  rfl
theorem unitL_get {l : List Ex} {k : Nat} {y : Ex} (h : l[k]? = some y) : unitL (l.drop k) = (unitX y).bind fun d => (unitL (l.drop (k + 1))).bind fun ds => some (d :: ds) := by rw [drop_get h, unitL]
def EqB (o : Option (List Int)) (b : Bool) (d : List Int) : Prop := (b = false → (0 = (o.getD [0, 0, 0, 0]).getD 0 0 ∧ 0 = (o.getD [0, 0, 0, 0]).getD 1 0 ∧ 0 = (o.getD [0, 0, 0, 0]).getD 2 0 ∧ 0 = (o.getD [0, 0, 0, 0]).getD 3 0) ∧ false = o.isSome) ∧
  (b = true → (d.getD 0 0 = (o.getD [0, 0, 0, 0]).getD 0 0 ∧ d.getD 1 0 = (o.getD [0, 0, 0, 0]).getD 1 0 ∧ d.getD 2 0 = (o.getD [0, 0, 0, 0]).getD 2 0 ∧ d.getD 3 0 = (o.getD [0, 0, 0, 0]).getD 3 0) ∧ true = o.isSome)
theorem leafN {o : Option (List Int)} (h : o = none) : (0 = (o.getD [0, 0, 0, 0]).getD 0 0 ∧ 0 = (o.getD [0, 0, 0, 0]).getD 1 0 ∧ 0 = (o.getD [0, 0, 0, 0]).getD 2 0 ∧ 0 = (o.getD [0, 0, 0, 0]).getD 3 0) ∧ false = o.isSome := by subst h; exact ⟨⟨rfl, rfl, rfl, rfl⟩, rfl⟩
theorem eqB_of {o : Option (List Int)} {b : Bool} {d : List Int} (h1 : b = false → o = none) (h2 : b = true → o = some d) : EqB o b d := by
  refine ⟨fun h => leafN (h1 h), fun h => ?_⟩
  rw [h2 h]; exact ⟨⟨rfl, rfl, rfl, rfl⟩, rfl⟩
theorem eqB_if {P : Prop} [Decidable P] {d : List Int} : EqB (if P then some d else none) (decide P) d :=
  eqB_of (fun h => by rw [if_neg (by simpa using h)]) (fun h => by rw [if_pos (by simpa using h)])
theorem powB (o : Option (List Int)) : EqB o o.isSome (o.getD [0, 0, 0, 0]) := by
  cases o with
  | none => exact eqB_of (fun _ => rfl) (fun h => by simp at h)
  | some d => exact eqB_of (fun h => by simp at h) (fun _ => rfl)
theorem unit_aux : ∀ (m : Nat), m ≤ 1000000000 → ∀ (x : Ex), x.sz < m → formX x = true → PureC E 18 [rulesV, exA x] (optV (unitX x)) := by
  intro m
  induction m with
  | zero => intro _ x h; omega
  | succ m ih =>
    intro hb x hm hf
    have hF : FnsOk E (Funit m) := addL2_ok E_ok (addS_ok Funit0_ok (Sunit_ok fun x h => ih (by omega) x h)) _ _ _
    refine pure_of_call E_ok (callF_ok E_ok Funit0_ok fun f N c => (vc_ok E_ok hF 800 f N c).1) ?_
    rw [cond_unit]
    have hsz := x.sz_eq
    have hlen := Ex.szL_len x.l
    obtain ⟨⟨f1, f2, f3, f4, f5, f6, f7, f8, f9, f10⟩, f11, f12⟩ := (formX_iff x).1 hf
    simp only [bif_true, bif_false, bif_nt, bif_tf, bif_ft, beq_iff_eq, bne_iff_ne, beq_eq_false_iff_ne, bne_eq_false_iff_eq, decide_eq_true_eq, decide_eq_false_iff_not, Bool.or_eq_true, Bool.or_eq_false_iff, Bool.not_eq_true', Bool.not_eq_false', Bool.and_eq_true, Bool.and_true, Bool.true_and, Bool.and_eq_false_iff, beq_self_eq_true, mm2_max, mm2_min, ne_eq, and_true, true_and, Bool.true_eq_false, Bool.false_eq_true, false_or, or_false, true_implies, imp_self, Int.ofNat_eq_natCast, not_true_eq_false, not_false_eq_true, Decidable.not_not, List.getElem?_cons_zero, List.getElem?_cons_succ, Option.some.injEq, forall_eq', forall_eq, List.set_cons_zero, List.set_cons_succ, List.length_cons, List.length_nil, List.getD_cons_zero, List.getD_cons_succ, tn0, tn1, tn2, tn3, Int.le_refl, Nat.le_refl, Nat.reduceAdd, Int.reduceAdd, Int.reduceLE, Nat.reduceLeDiff, cn4, cn16, Ex.eta, List.drop_zero, List.take_length]
    rw [unitX_eq]
    refine And.intro (fun h1 => ?_) (fun h1 => And.intro (fun h2 => ⟨by omega, by omega, fun y hy => ?_⟩) (fun h2 => ?_))
    · rw [if_pos h1]
      simp only [Option.getD_some, Option.isSome_some, Ex.u, List.getD_cons_zero, List.getD_cons_succ, and_self]
    · rw [if_neg h1, if_pos h2]
      obtain ⟨k, hk⟩ : ∃ k : Nat, x.n = k := ⟨x.n.toNat, by omega⟩
      rw [hk] at hy ⊢
      rw [Int.toNat_natCast, attr_tab k (by omega)] at hy
      cases hy
      simp only [Option.getD_some, Option.isSome_some, and_self]
    · rw [if_neg h1, if_neg h2]
      refine ⟨fun s y => (s = true ↔ 0 < y.k) ∧ y.k ≤ x.l.length ∧ y.D.length = y.k ∧ unitL x.l = (unitL (x.l.drop y.k)).bind (fun ds => some (y.D ++ ds)) ∧ (∀ d ∈ y.D, Is4 d) ∧ y.r = x.l.length - y.k, .inr ⟨⟨0, x.l.length, []⟩, ⟨by simp, (by dsimp only; omega), rfl, by simp, by simp, rfl⟩, rfl⟩, ?_, ?_⟩
      · rintro y ⟨hs, hk, hD, hv, h4, hr⟩
        have hk0 := hs.1 rfl
        refine And.intro (fun hq => ⟨by omega, by omega, fun z hz => ?_⟩) (fun hq => ?_)
        · have hz : x.l[y.k]? = some z := hz
          rw [unitL_get hz] at hv
          have hzs := Ex.sz_mem (List.mem_of_getElem? hz)
          have hzf := formL_iff.1 f12 z (List.mem_of_getElem? hz)
          refine ⟨rfl, ⟨by omega, hzf⟩, fun ho => ?_, fun ho => ?_⟩
          · have : unitL x.l = none := by rw [hv, Option.isSome_eq_false_iff.1 ho |> Option.isNone_iff_eq_none.1]; rfl
            rw [this]
            exact leafN rfl
          · obtain ⟨d, hd⟩ := Option.isSome_iff_exists.1 ho
            have hd4 := unitX_4 z hzf hd
            rw [hd] at hv ⊢
            simp only [Option.getD_some, is4_row hd4]
            refine ⟨⟨by omega, by omega⟩, .inl ⟨⟨y.k + 1, x.l.length - (y.k + 1), y.D ++ [d]⟩, ⟨by simp, (by dsimp only; omega), by simp [hD], ?_, ?_, rfl⟩, (by dsimp only; omega), ⟨by simp, wr64 (by omega) (by omega)⟩, rfl⟩⟩
            · rw [hv]
              simp only [Option.bind_some]
              cases unitL (x.l.drop (y.k + 1)) with
              | none => rfl
              | some ds => simp
            · intro e he
              rcases List.mem_append.1 he with he | he
              · exact h4 e he
              · rw [List.mem_singleton.1 he]; exact hd4
        · rw [drop_end (by omega)] at hv
          have hv : unitL x.l = some y.D := by rw [hv, unitL]; simp
          rw [hv, Option.bind_some]
          have hg : ∀ i, i < y.D.length → Is4 (y.D.getD i []) := fun i hi => by
            rw [List.getD_eq_getElem?_getD, List.getElem?_eq_getElem hi]
            exact h4 _ (List.getElem_mem hi)
          have hDl : y.D.length = x.l.length := by omega
          have eqB : ruleD x.op y.D = (if y.D.getD 0 [] = y.D.getD 1 [] then some (y.D.getD 0 []) else none) → 2 ≤ y.D.length → EqB (ruleD x.op y.D) (eq4 (y.D.getD 0 []) (y.D.getD 1 [])) (y.D.getD 0 []) := by
            intro h1 h2
            rw [h1, eq4_iff (hg 0 (by omega)) (hg 1 (by omega))]
            exact eqB_if
          refine And.intro (fun a => ⟨by omega, by omega, eqB ?_ (by omega)⟩) (fun a3 => And.intro (fun a => ⟨by omega, by omega, eqB ?_ (by omega)⟩) (fun a4 => And.intro (fun a => ⟨by omega, by omega, eqB ?_ (by omega)⟩) (fun a6 => And.intro (fun a => ⟨by omega, by omega, eqB ?_ (by omega)⟩) (fun a7 => And.intro (fun a => ⟨by omega, by omega, ?_⟩) (fun a5 => And.intro (fun a => ⟨by omega, by omega, ?_⟩) (fun a8 => And.intro (fun a => ⟨by omega, by omega, ?_⟩) (fun a9 => And.intro (fun a => ⟨by omega, by omega, ?_⟩) (fun a10 => And.intro (fun a => ⟨by omega, by omega, ?_⟩) (fun a11 => ?_)))))))))
          · unfold ruleD; rw [if_neg (by omega), if_neg (by omega), if_neg (by omega)]
          · unfold ruleD; rw [if_neg (by omega), if_neg (by omega), if_neg (by omega)]
          · unfold ruleD; rw [if_neg (by omega), if_neg (by omega), if_neg (by omega)]
          · unfold ruleD; rw [if_neg (by omega), if_neg (by omega), if_neg (by omega)]
          · have : ruleD x.op y.D = cmb 1 (y.D.getD 0 []) (y.D.getD 1 []) := by unfold ruleD; rw [if_pos a]
            rw [this]; exact powB _
          · have : ruleD x.op y.D = cmb (-1) (y.D.getD 0 []) (y.D.getD 1 []) := by unfold ruleD; rw [if_neg (by omega), if_pos (by omega)]
            rw [this]; exact powB _
          · have : ruleD x.op y.D = cmb (-1) (y.D.getD 0 []) (y.D.getD 1 []) := by unfold ruleD; rw [if_neg (by omega), if_pos (by omega)]
            rw [this]; exact powB _
          · have : ruleD x.op y.D = cmb (-1) (y.D.getD 0 []) (y.D.getD 1 []) := by unfold ruleD; rw [if_neg (by omega), if_pos (by omega)]
            rw [this]; exact powB _
          · have : ruleD x.op y.D = (if y.D.getD 0 [] = y.D.getD 1 [] ∧ y.D.getD 2 [] = y.D.getD 3 [] then some (y.D.getD 2 []) else none) := by unfold ruleD; rw [if_neg (by omega), if_neg (by omega), if_pos a]
            rw [this]
            rw [eq4_iff (hg 0 (by omega)) (hg 1 (by omega)), eq4_iff (hg 2 (by omega)) (hg 3 (by omega))]
            refine And.intro (fun h => ?_) (fun h => ?_)
            · rw [if_neg (by
                rintro ⟨p, q⟩
                rcases h with h | h
                · exact of_decide_eq_false h p
                · exact of_decide_eq_false h q)]
              exact leafN rfl
            · rw [if_pos ⟨of_decide_eq_true h.1, of_decide_eq_true h.2⟩]
              exact ⟨⟨rfl, rfl, rfl, rfl⟩, rfl⟩
          · omega
      · rintro y ⟨hs, hk, hD, hv, h4, hr⟩
        have hk0 : y.k = 0 := by
          rcases Nat.eq_zero_or_pos y.k with h | h
          · exact h
          · have := hs.2 h; simp at this
        have hD0 : y.D = [] := List.eq_nil_of_length_eq_zero (by omega)
        refine And.intro (fun hq => ⟨by omega, by omega, fun z hz => ?_⟩) (fun hq => ?_)
        · have hz : x.l[y.k]? = some z := hz
          rw [unitL_get hz] at hv
          have hzs := Ex.sz_mem (List.mem_of_getElem? hz)
          have hzf := formL_iff.1 f12 z (List.mem_of_getElem? hz)
          refine ⟨rfl, ⟨by omega, hzf⟩, fun ho => ?_, fun ho => ?_⟩
          · have : unitL x.l = none := by rw [hv, Option.isSome_eq_false_iff.1 ho |> Option.isNone_iff_eq_none.1]; rfl
            rw [this]
            exact leafN rfl
          · obtain ⟨d, hd⟩ := Option.isSome_iff_exists.1 ho
            have hd4 := unitX_4 z hzf hd
            rw [hd] at hv ⊢
            simp only [Option.getD_some, is4_row hd4]
            rw [hk0, hD0] at hv
            refine .inl ⟨⟨1, x.l.length - 1, [d]⟩, ⟨by simp, (by dsimp only; omega), rfl, ?_, ?_, rfl⟩, (by dsimp only; omega), ⟨rfl, by rw [hk0]; rfl⟩, rfl⟩
            · rw [hv]
              simp only [Option.bind_some]
              show ((unitL (x.l.drop (0 + 1))).bind fun ds => some (d :: ds)).bind (fun ds => some ([] ++ ds)) = (unitL (x.l.drop 1)).bind fun ds => some ([d] ++ ds)
              cases unitL (x.l.drop (0 + 1)) with
              | none => rfl
              | some ds => rfl
            · intro e he
              rw [List.mem_singleton.1 he]; exact hd4
        · omega
end Go.Proofs.YtpllflefaccmkaaGreatDoor

/- Chapter 17: Attr, Unit; the reference's. -/
namespace Go.Proofs.YtpllflefaccmkaaGreatDoor
open Go
set_option linter.unusedVariables false
set_option linter.unusedSimpArgs false
set_option maxRecDepth 100000
def attrP (a : Int) : List Int × Int := if 0 ≤ a ∧ a < 16 then (attrD a, 0) else ([0, 0, 0, 0], 1)
def errV (p : List Int × Int) : SV thy := .tup [dimV p.1, .int false .i64 p.2]
--@cond attr | 13 | F0 | 400 | (a : Int) | [.int false .i64 a] | (p : List Int × Int) | errV p
theorem cond_attr (a : Int) (p : List Int × Int) : callF E F0 (vc E F0 400) 13 [.int false .i64 a] hp0 0 (fun r => ret E (patch hp0 0 r) r.v (errV p)) = (
  ∃ (Q : Bool → Prop), ((decide (a < (0 : Int)) = true → Q true) ∧ (decide (a < (0 : Int)) = false → (decide (a ≥ (16 : Int)) = true → Q true) ∧ (decide (a ≥ (16 : Int)) = false → Q
  false))) ∧ (Q true → (4 : Nat) = (4 : Nat) ∧ (4 : Nat) = (4 : Nat) ∧ (4 : Nat) = (4 : Nat) ∧ ((0 : Int) = List.getD (Prod.fst p) (0 : Nat) (0 : Int) ∧ (0 : Int) = List.getD
  (Prod.fst p) (1 : Nat) (0 : Int) ∧ (0 : Int) = List.getD (Prod.fst p) (2 : Nat) (0 : Int) ∧ (0 : Int) = List.getD (Prod.fst p) (3 : Nat) (0 : Int) ∧ True) ∧ (1 : Int) = Prod.snd p
  ∧ True) ∧ (Q false → (0 : Int) ≤ a ∧ a + (1 : Int) ≤ (↑(16 : Nat) : Int) ∧ ∀ (x : List Int), [[(0 : Int), (0 : Int), (0 : Int), (0 : Int)], [(0 : Int), (0 : Int), (0 : Int), (0 :
  Int)], [(0 : Int), (0 : Int), (0 : Int), (0 : Int)], [(0 : Int), (0 : Int), (0 : Int), (0 : Int)], [(0 : Int), (0 : Int), (0 : Int), (0 : Int)], [(0 : Int), (0 : Int), (0 : Int),
  (1 : Int)], [(0 : Int), (0 : Int), (1 : Int), (0 : Int)], [(0 : Int), (1 : Int), (0 : Int), (0 : Int)], [(0 : Int), (1 : Int), (0 : Int), (0 : Int)], [(0 : Int), (0 : Int), (0 :
  Int), (0 : Int)], [(1 : Int), (0 : Int), (0 : Int), (0 : Int)], [(1 : Int), (0 : Int), (0 : Int), (0 : Int)], [(0 : Int), (0 : Int), (0 : Int), (0 : Int)], [(0 : Int), (0 : Int),
  (0 : Int), (0 : Int)], [(0 : Int), (0 : Int), (0 : Int), (0 : Int)], [(0 : Int), (0 : Int), (0 : Int), (0 : Int)]][Int.toNat a]? = some x → (4 : Nat) = (4 : Nat) ∧ (4 : Nat) = (4 :
  Nat) ∧ (List.getD x (0 : Nat) (0 : Int) = List.getD (Prod.fst p) (0 : Nat) (0 : Int) ∧ List.getD x (1 : Nat) (0 : Int) = List.getD (Prod.fst p) (1 : Nat) (0 : Int) ∧ List.getD x (2
  : Nat) (0 : Int) = List.getD (Prod.fst p) (2 : Nat) (0 : Int) ∧ List.getD x (3 : Nat) (0 : Int) = List.getD (Prod.fst p) (3 : Nat) (0 : Int) ∧ True) ∧ (0 : Int) = Prod.snd p ∧
  True)
  ) := by kernel_rfl
--@end
theorem errP_of {p : List Int × Int} {d : List Int} {e : Int} (h : p = (d, e)) : (d.getD 0 0 = p.1.getD 0 0 ∧ d.getD 1 0 = p.1.getD 1 0 ∧ d.getD 2 0 = p.1.getD 2 0 ∧ d.getD 3 0 = p.1.getD 3 0) ∧ e = p.2 := by
  rw [h]; exact ⟨⟨rfl, rfl, rfl, rfl⟩, rfl⟩
theorem errP_0 {p : List Int × Int} {e : Int} (h : p = ([0, 0, 0, 0], e)) : (0 = p.1.getD 0 0 ∧ 0 = p.1.getD 1 0 ∧ 0 = p.1.getD 2 0 ∧ 0 = p.1.getD 3 0) ∧ e = p.2 := by
  rw [h]; exact ⟨⟨rfl, rfl, rfl, rfl⟩, rfl⟩
theorem attr_pure (a : Int) : PureC E 13 [.int false .i64 a] (errV (attrP a)) := by
  refine pure_of_call E_ok (call0 400) ?_
  rw [cond_attr]
  simp only [bif_true, bif_false, bif_nt, bif_tf, bif_ft, beq_iff_eq, bne_iff_ne, beq_eq_false_iff_ne, bne_eq_false_iff_eq, decide_eq_true_eq, decide_eq_false_iff_not, Bool.or_eq_true, Bool.or_eq_false_iff, Bool.not_eq_true', Bool.not_eq_false', Bool.and_eq_true, Bool.and_true, Bool.true_and, Bool.and_eq_false_iff, beq_self_eq_true, mm2_max, mm2_min, ne_eq, and_true, true_and, Bool.true_eq_false, Bool.false_eq_true, false_or, or_false, true_implies, imp_self, Int.ofNat_eq_natCast, not_true_eq_false, not_false_eq_true, Decidable.not_not, List.getElem?_cons_zero, List.getElem?_cons_succ, Option.some.injEq, forall_eq', forall_eq, List.set_cons_zero, List.set_cons_succ, List.length_cons, List.length_nil, List.getD_cons_zero, List.getD_cons_succ, tn0, tn1, tn2, tn3, Int.le_refl, Nat.le_refl, Nat.reduceAdd, Int.reduceAdd, Int.reduceLE, Nat.reduceLeDiff, cn4, cn16]
  have y1 : ¬ (0 ≤ a ∧ a < 16) → attrP a = ([0, 0, 0, 0], 1) := fun h => by unfold attrP; rw [if_neg h]
  have y2 : (0 ≤ a ∧ a < 16) → attrP a = (attrD a, 0) := fun h => by unfold attrP; rw [if_pos h]
  refine ⟨fun b => b = true ↔ ¬ (0 ≤ a ∧ a < 16), And.intro (fun h => ⟨fun _ => by omega, fun _ => rfl⟩) (fun h => And.intro (fun h' => ⟨fun _ => by omega, fun _ => rfl⟩) (fun h' => ⟨fun h => (by cases h), fun h => by omega⟩)), fun h => ?_, fun h => ?_⟩
  · exact errP_0 (y1 (h.1 rfl))
  · have h : 0 ≤ a ∧ a < 16 := Decidable.byContradiction fun hn => by have := h.2 hn; cases this
    refine ⟨by omega, by omega, fun y hy => ?_⟩
    obtain ⟨k, hk⟩ : ∃ k : Nat, a = k := ⟨a.toNat, by omega⟩
    rw [hk] at hy y2
    rw [Int.toNat_natCast, attr_tab k (by omega)] at hy
    cases hy
    rw [hk]
    exact errP_of (y2 (by omega))
--@cond attr17 | 75 | F0 | 400 | (a : Int) | [.int false .i64 a] | (p : List Int × Int) | errV p
theorem cond_attr17 (a : Int) (p : List Int × Int) : callF E F0 (vc E F0 400) 75 [.int false .i64 a] hp0 0 (fun r => ret E (patch hp0 0 r) r.v (errV p)) = (
  ∃ (Q : Bool → Prop), ((decide (a < (0 : Int)) = true → Q true) ∧ (decide (a < (0 : Int)) = false → (decide (a ≥ (16 : Int)) = true → Q true) ∧ (decide (a ≥ (16 : Int)) = false → Q
  false))) ∧ (Q true → (4 : Nat) = (4 : Nat) ∧ (4 : Nat) = (4 : Nat) ∧ ((0 : Int) = List.getD (Prod.fst p) (0 : Nat) (0 : Int) ∧ (0 : Int) = List.getD (Prod.fst p) (1 : Nat) (0 :
  Int) ∧ (0 : Int) = List.getD (Prod.fst p) (2 : Nat) (0 : Int) ∧ (0 : Int) = List.getD (Prod.fst p) (3 : Nat) (0 : Int) ∧ True) ∧ (1 : Int) = Prod.snd p ∧ True) ∧ (Q false → ((a ==
  (10 : Int)) = true → (4 : Nat) = (4 : Nat) ∧ (4 : Nat) = (4 : Nat) ∧ (4 : Nat) = (4 : Nat) ∧ (4 : Nat) = (4 : Nat) ∧ ((1 : Int) = List.getD (Prod.fst p) (0 : Nat) (0 : Int) ∧ (0 :
  Int) = List.getD (Prod.fst p) (1 : Nat) (0 : Int) ∧ (0 : Int) = List.getD (Prod.fst p) (2 : Nat) (0 : Int) ∧ (0 : Int) = List.getD (Prod.fst p) (3 : Nat) (0 : Int) ∧ True) ∧ (0 :
  Int) = Prod.snd p ∧ True) ∧ ((a == (10 : Int)) = false → ((a == (11 : Int)) = true → (4 : Nat) = (4 : Nat) ∧ (4 : Nat) = (4 : Nat) ∧ (4 : Nat) = (4 : Nat) ∧ (4 : Nat) = (4 : Nat) ∧
  ((1 : Int) = List.getD (Prod.fst p) (0 : Nat) (0 : Int) ∧ (0 : Int) = List.getD (Prod.fst p) (1 : Nat) (0 : Int) ∧ (0 : Int) = List.getD (Prod.fst p) (2 : Nat) (0 : Int) ∧ (0 :
  Int) = List.getD (Prod.fst p) (3 : Nat) (0 : Int) ∧ True) ∧ (0 : Int) = Prod.snd p ∧ True) ∧ ((a == (11 : Int)) = false → ((a == (7 : Int)) = true → (4 : Nat) = (4 : Nat) ∧ (4 :
  Nat) = (4 : Nat) ∧ ((0 : Int) = List.getD (Prod.fst p) (0 : Nat) (0 : Int) ∧ (1 : Int) = List.getD (Prod.fst p) (1 : Nat) (0 : Int) ∧ (0 : Int) = List.getD (Prod.fst p) (2 : Nat)
  (0 : Int) ∧ (0 : Int) = List.getD (Prod.fst p) (3 : Nat) (0 : Int) ∧ True) ∧ (0 : Int) = Prod.snd p ∧ True) ∧ ((a == (7 : Int)) = false → ((a == (8 : Int)) = true → (4 : Nat) = (4
  : Nat) ∧ (4 : Nat) = (4 : Nat) ∧ ((0 : Int) = List.getD (Prod.fst p) (0 : Nat) (0 : Int) ∧ (1 : Int) = List.getD (Prod.fst p) (1 : Nat) (0 : Int) ∧ (0 : Int) = List.getD (Prod.fst
  p) (2 : Nat) (0 : Int) ∧ (0 : Int) = List.getD (Prod.fst p) (3 : Nat) (0 : Int) ∧ True) ∧ (0 : Int) = Prod.snd p ∧ True) ∧ ((a == (8 : Int)) = false → ((a == (6 : Int)) = true → (4
  : Nat) = (4 : Nat) ∧ (4 : Nat) = (4 : Nat) ∧ ((0 : Int) = List.getD (Prod.fst p) (0 : Nat) (0 : Int) ∧ (0 : Int) = List.getD (Prod.fst p) (1 : Nat) (0 : Int) ∧ (1 : Int) =
  List.getD (Prod.fst p) (2 : Nat) (0 : Int) ∧ (0 : Int) = List.getD (Prod.fst p) (3 : Nat) (0 : Int) ∧ True) ∧ (0 : Int) = Prod.snd p ∧ True) ∧ ((a == (6 : Int)) = false → ((a == (5
  : Int)) = true → (4 : Nat) = (4 : Nat) ∧ (4 : Nat) = (4 : Nat) ∧ ((0 : Int) = List.getD (Prod.fst p) (0 : Nat) (0 : Int) ∧ (0 : Int) = List.getD (Prod.fst p) (1 : Nat) (0 : Int) ∧
  (0 : Int) = List.getD (Prod.fst p) (2 : Nat) (0 : Int) ∧ (1 : Int) = List.getD (Prod.fst p) (3 : Nat) (0 : Int) ∧ True) ∧ (0 : Int) = Prod.snd p ∧ True) ∧ ((a == (5 : Int)) = false
  → (4 : Nat) = (4 : Nat) ∧ (4 : Nat) = (4 : Nat) ∧ ((0 : Int) = List.getD (Prod.fst p) (0 : Nat) (0 : Int) ∧ (0 : Int) = List.getD (Prod.fst p) (1 : Nat) (0 : Int) ∧ (0 : Int) =
  List.getD (Prod.fst p) (2 : Nat) (0 : Int) ∧ (0 : Int) = List.getD (Prod.fst p) (3 : Nat) (0 : Int) ∧ True) ∧ (0 : Int) = Prod.snd p ∧ True)))))))
  ) := by kernel_rfl
--@end
theorem attr17_pure (a : Int) : PureC E 75 [.int false .i64 a] (errV (attrP a)) := by
  refine pure_of_call E_ok (call0 400) ?_
  rw [cond_attr17]
  simp only [bif_true, bif_false, bif_nt, bif_tf, bif_ft, beq_iff_eq, bne_iff_ne, beq_eq_false_iff_ne, bne_eq_false_iff_eq, decide_eq_true_eq, decide_eq_false_iff_not, Bool.or_eq_true, Bool.or_eq_false_iff, Bool.not_eq_true', Bool.not_eq_false', Bool.and_eq_true, Bool.and_true, Bool.true_and, Bool.and_eq_false_iff, beq_self_eq_true, mm2_max, mm2_min, ne_eq, and_true, true_and, Bool.true_eq_false, Bool.false_eq_true, false_or, or_false, true_implies, imp_self, Int.ofNat_eq_natCast, not_true_eq_false, not_false_eq_true, Decidable.not_not, List.getElem?_cons_zero, List.getElem?_cons_succ, Option.some.injEq, forall_eq', forall_eq, List.set_cons_zero, List.set_cons_succ, List.length_cons, List.length_nil, List.getD_cons_zero, List.getD_cons_succ, tn0, tn1, tn2, tn3, Int.le_refl, Nat.le_refl, Nat.reduceAdd, Int.reduceAdd, Int.reduceLE, Nat.reduceLeDiff, cn4, cn16]
  have y1 : ¬ (0 ≤ a ∧ a < 16) → attrP a = ([0, 0, 0, 0], 1) := fun h => by unfold attrP; rw [if_neg h]
  have y2 : (0 ≤ a ∧ a < 16) → attrP a = (attrD a, 0) := fun h => by unfold attrP; rw [if_pos h]
  have y3 : (0 ≤ a ∧ a < 16) → a ≠ 5 → a ≠ 6 → a ≠ 7 → a ≠ 8 → a ≠ 10 → a ≠ 11 → attrP a = ([0, 0, 0, 0], 0) := fun h h5 h6 h7 h8 h10 h11 => by
    rw [y2 h]; unfold attrD; rw [if_neg h5, if_neg h6, if_neg (by omega), if_neg (by omega)]
  clear y2
  refine ⟨fun b => b = true ↔ ¬ (0 ≤ a ∧ a < 16), And.intro (fun h => ⟨fun _ => by omega, fun _ => rfl⟩) (fun h => And.intro (fun h' => ⟨fun _ => by omega, fun _ => rfl⟩) (fun h' => ⟨fun h => (by cases h), fun h => by omega⟩)), fun h => ?_, fun h => ?_⟩
  · exact errP_0 (y1 (h.1 rfl))
  · have h : 0 ≤ a ∧ a < 16 := Decidable.byContradiction fun hn => by have := h.2 hn; cases this
    have y3 := y3 h
    clear y1
    repeat' (first | (refine And.intro (fun h => ?_) (fun h => ?_)) | (intro h))
    all_goals first
      | (subst_vars; decide)
      | exact errP_0 (y3 (by omega) (by omega) (by omega) (by omega) (by omega) (by omega))
--@cond comb | 76 | F0 | 2000 | (a b : List Int) (s : Int) | [dimV a, dimV b, .int false .i64 s] | (o : Option (List Int)) | optV o
theorem cond_comb (a b : List Int) (s : Int) (o : Option (List Int)) : callF E F0 (vc E F0 2000) 76 [dimV a, dimV b, .int false .i64 s] hp0 0 (fun r => ret E (patch hp0 0 r) r.v (optV o)) = (
  (4 : Nat) = (4 : Nat) ∧ ((0 : Int) ≤ (0 : Int) ∧ (0 : Int) + (1 : Int) ≤ (↑(4 : Nat) : Int)) ∧ Int.toNat (0 : Int) + (1 : Nat) ≤ (4 : Nat) ∧ ∀ (x : Int), [List.getD a (0 : Nat) (0
  : Int), List.getD a (1 : Nat) (0 : Int), List.getD a (2 : Nat) (0 : Int), List.getD a (3 : Nat) (0 : Int)][Int.toNat (0 : Int)]? = some x → ((0 : Int) ≤ (0 : Int) ∧ (0 : Int) + (1
  : Int) ≤ (↑(4 : Nat) : Int)) ∧ Int.toNat (0 : Int) + (1 : Nat) ≤ (4 : Nat) ∧ ∀ (x_1 : Int), [List.getD b (0 : Nat) (0 : Int), List.getD b (1 : Nat) (0 : Int), List.getD b (2 : Nat)
  (0 : Int), List.getD b (3 : Nat) (0 : Int)][Int.toNat (0 : Int)]? = some x_1 → ((0 : Int) ≤ (0 : Int) ∧ (0 : Int) + (1 : Int) ≤ (↑(4 : Nat) : Int)) ∧ (0 : Nat) ≤ Int.toNat (0 :
  Int) ∧ Int.toNat (0 : Int) + (1 : Nat) ≤ (4 : Nat) ∧ ∀ (x_2 : Int), [(0 : Int), (0 : Int), (0 : Int), (0 : Int)][Int.toNat (0 : Int)]? = some x_2 → ∃ (Q : Bool → Prop), (((0 : Int)
  ≤ (0 : Int) ∧ (0 : Int) + (1 : Int) ≤ (↑(4 : Nat) : Int)) ∧ Int.toNat (0 : Int) + (1 : Nat) ≤ List.length (List.set [(0 : Int), (0 : Int), (0 : Int), (0 : Int)] (Int.toNat (0 :
  Int)) (wr IntKind.i64 (x + wr IntKind.i64 (s * x_1)))) ∧ ∀ (x_3 : Int), (List.set [(0 : Int), (0 : Int), (0 : Int), (0 : Int)] (Int.toNat (0 : Int)) (wr IntKind.i64 (x + wr
  IntKind.i64 (s * x_1))))[Int.toNat (0 : Int)]? = some x_3 → (decide (x_3 < (-3 : Int)) = true → Q true) ∧ (decide (x_3 < (-3 : Int)) = false → ((0 : Int) ≤ (0 : Int) ∧ (0 : Int) +
  (1 : Int) ≤ (↑(4 : Nat) : Int)) ∧ Int.toNat (0 : Int) + (1 : Nat) ≤ List.length (List.set [(0 : Int), (0 : Int), (0 : Int), (0 : Int)] (Int.toNat (0 : Int)) (wr IntKind.i64 (x + wr
  IntKind.i64 (s * x_1)))) ∧ ∀ (x_4 : Int), (List.set [(0 : Int), (0 : Int), (0 : Int), (0 : Int)] (Int.toNat (0 : Int)) (wr IntKind.i64 (x + wr IntKind.i64 (s * x_1))))[Int.toNat (0
  : Int)]? = some x_4 → (decide (x_4 > (3 : Int)) = true → Q true) ∧ (decide (x_4 > (3 : Int)) = false → Q false))) ∧ (Q true → (4 : Nat) = (4 : Nat) ∧ (4 : Nat) = (4 : Nat) ∧ ((0 :
  Int) = List.getD (Option.getD o [(0 : Int), (0 : Int), (0 : Int), (0 : Int)]) (0 : Nat) (0 : Int) ∧ (0 : Int) = List.getD (Option.getD o [(0 : Int), (0 : Int), (0 : Int), (0 :
  Int)]) (1 : Nat) (0 : Int) ∧ (0 : Int) = List.getD (Option.getD o [(0 : Int), (0 : Int), (0 : Int), (0 : Int)]) (2 : Nat) (0 : Int) ∧ (0 : Int) = List.getD (Option.getD o [(0 :
  Int), (0 : Int), (0 : Int), (0 : Int)]) (3 : Nat) (0 : Int) ∧ True) ∧ false = Option.isSome o ∧ True) ∧ (Q false → ((0 : Int) ≤ (1 : Int) ∧ (1 : Int) + (1 : Int) ≤ (↑(4 : Nat) :
  Int)) ∧ Int.toNat (1 : Int) + (1 : Nat) ≤ (4 : Nat) ∧ ∀ (x_3 : Int), [List.getD a (0 : Nat) (0 : Int), List.getD a (1 : Nat) (0 : Int), List.getD a (2 : Nat) (0 : Int), List.getD a
  (3 : Nat) (0 : Int)][Int.toNat (1 : Int)]? = some x_3 → ((0 : Int) ≤ (1 : Int) ∧ (1 : Int) + (1 : Int) ≤ (↑(4 : Nat) : Int)) ∧ Int.toNat (1 : Int) + (1 : Nat) ≤ (4 : Nat) ∧ ∀ (x_4
  : Int), [List.getD b (0 : Nat) (0 : Int), List.getD b (1 : Nat) (0 : Int), List.getD b (2 : Nat) (0 : Int), List.getD b (3 : Nat) (0 : Int)][Int.toNat (1 : Int)]? = some x_4 → ((0
  : Int) ≤ (1 : Int) ∧ (1 : Int) + (1 : Int) ≤ (↑(4 : Nat) : Int)) ∧ (0 : Nat) ≤ Int.toNat (1 : Int) ∧ Int.toNat (1 : Int) + (1 : Nat) ≤ List.length (List.set [(0 : Int), (0 : Int),
  (0 : Int), (0 : Int)] (Int.toNat (0 : Int)) (wr IntKind.i64 (x + wr IntKind.i64 (s * x_1)))) ∧ ∀ (x_5 : Int), (List.set [(0 : Int), (0 : Int), (0 : Int), (0 : Int)] (Int.toNat (0 :
  Int)) (wr IntKind.i64 (x + wr IntKind.i64 (s * x_1))))[Int.toNat (1 : Int)]? = some x_5 → ∃ (Q : Bool → Prop), (((0 : Int) ≤ (1 : Int) ∧ (1 : Int) + (1 : Int) ≤ (↑(4 : Nat) : Int))
  ∧ Int.toNat (1 : Int) + (1 : Nat) ≤ List.length (List.set (List.set [(0 : Int), (0 : Int), (0 : Int), (0 : Int)] (Int.toNat (0 : Int)) (wr IntKind.i64 (x + wr IntKind.i64 (s *
  x_1)))) (Int.toNat (1 : Int)) (wr IntKind.i64 (x_3 + wr IntKind.i64 (s * x_4)))) ∧ ∀ (x_6 : Int), (List.set (List.set [(0 : Int), (0 : Int), (0 : Int), (0 : Int)] (Int.toNat (0 :
  Int)) (wr IntKind.i64 (x + wr IntKind.i64 (s * x_1)))) (Int.toNat (1 : Int)) (wr IntKind.i64 (x_3 + wr IntKind.i64 (s * x_4))))[Int.toNat (1 : Int)]? = some x_6 → (decide (x_6 <
  (-3 : Int)) = true → Q true) ∧ (decide (x_6 < (-3 : Int)) = false → ((0 : Int) ≤ (1 : Int) ∧ (1 : Int) + (1 : Int) ≤ (↑(4 : Nat) : Int)) ∧ Int.toNat (1 : Int) + (1 : Nat) ≤
  List.length (List.set (List.set [(0 : Int), (0 : Int), (0 : Int), (0 : Int)] (Int.toNat (0 : Int)) (wr IntKind.i64 (x + wr IntKind.i64 (s * x_1)))) (Int.toNat (1 : Int)) (wr
  IntKind.i64 (x_3 + wr IntKind.i64 (s * x_4)))) ∧ ∀ (x_7 : Int), (List.set (List.set [(0 : Int), (0 : Int), (0 : Int), (0 : Int)] (Int.toNat (0 : Int)) (wr IntKind.i64 (x + wr
  IntKind.i64 (s * x_1)))) (Int.toNat (1 : Int)) (wr IntKind.i64 (x_3 + wr IntKind.i64 (s * x_4))))[Int.toNat (1 : Int)]? = some x_7 → (decide (x_7 > (3 : Int)) = true → Q true) ∧
  (decide (x_7 > (3 : Int)) = false → Q false))) ∧ (Q true → (4 : Nat) = (4 : Nat) ∧ (4 : Nat) = (4 : Nat) ∧ ((0 : Int) = List.getD (Option.getD o [(0 : Int), (0 : Int), (0 : Int),
  (0 : Int)]) (0 : Nat) (0 : Int) ∧ (0 : Int) = List.getD (Option.getD o [(0 : Int), (0 : Int), (0 : Int), (0 : Int)]) (1 : Nat) (0 : Int) ∧ (0 : Int) = List.getD (Option.getD o [(0
  : Int), (0 : Int), (0 : Int), (0 : Int)]) (2 : Nat) (0 : Int) ∧ (0 : Int) = List.getD (Option.getD o [(0 : Int), (0 : Int), (0 : Int), (0 : Int)]) (3 : Nat) (0 : Int) ∧ True) ∧
  false = Option.isSome o ∧ True) ∧ (Q false → ((0 : Int) ≤ (2 : Int) ∧ (2 : Int) + (1 : Int) ≤ (↑(4 : Nat) : Int)) ∧ Int.toNat (2 : Int) + (1 : Nat) ≤ (4 : Nat) ∧ ∀ (x_6 : Int),
  [List.getD a (0 : Nat) (0 : Int), List.getD a (1 : Nat) (0 : Int), List.getD a (2 : Nat) (0 : Int), List.getD a (3 : Nat) (0 : Int)][Int.toNat (2 : Int)]? = some x_6 → ((0 : Int) ≤
  (2 : Int) ∧ (2 : Int) + (1 : Int) ≤ (↑(4 : Nat) : Int)) ∧ Int.toNat (2 : Int) + (1 : Nat) ≤ (4 : Nat) ∧ ∀ (x_7 : Int), [List.getD b (0 : Nat) (0 : Int), List.getD b (1 : Nat) (0 :
  Int), List.getD b (2 : Nat) (0 : Int), List.getD b (3 : Nat) (0 : Int)][Int.toNat (2 : Int)]? = some x_7 → ((0 : Int) ≤ (2 : Int) ∧ (2 : Int) + (1 : Int) ≤ (↑(4 : Nat) : Int)) ∧ (0
  : Nat) ≤ Int.toNat (2 : Int) ∧ Int.toNat (2 : Int) + (1 : Nat) ≤ List.length (List.set (List.set [(0 : Int), (0 : Int), (0 : Int), (0 : Int)] (Int.toNat (0 : Int)) (wr IntKind.i64
  (x + wr IntKind.i64 (s * x_1)))) (Int.toNat (1 : Int)) (wr IntKind.i64 (x_3 + wr IntKind.i64 (s * x_4)))) ∧ ∀ (x_8 : Int), (List.set (List.set [(0 : Int), (0 : Int), (0 : Int), (0
  : Int)] (Int.toNat (0 : Int)) (wr IntKind.i64 (x + wr IntKind.i64 (s * x_1)))) (Int.toNat (1 : Int)) (wr IntKind.i64 (x_3 + wr IntKind.i64 (s * x_4))))[Int.toNat (2 : Int)]? = some
  x_8 → ∃ (Q : Bool → Prop), (((0 : Int) ≤ (2 : Int) ∧ (2 : Int) + (1 : Int) ≤ (↑(4 : Nat) : Int)) ∧ Int.toNat (2 : Int) + (1 : Nat) ≤ List.length (List.set (List.set (List.set [(0 :
  Int), (0 : Int), (0 : Int), (0 : Int)] (Int.toNat (0 : Int)) (wr IntKind.i64 (x + wr IntKind.i64 (s * x_1)))) (Int.toNat (1 : Int)) (wr IntKind.i64 (x_3 + wr IntKind.i64 (s *
  x_4)))) (Int.toNat (2 : Int)) (wr IntKind.i64 (x_6 + wr IntKind.i64 (s * x_7)))) ∧ ∀ (x_9 : Int), (List.set (List.set (List.set [(0 : Int), (0 : Int), (0 : Int), (0 : Int)]
  (Int.toNat (0 : Int)) (wr IntKind.i64 (x + wr IntKind.i64 (s * x_1)))) (Int.toNat (1 : Int)) (wr IntKind.i64 (x_3 + wr IntKind.i64 (s * x_4)))) (Int.toNat (2 : Int)) (wr
  IntKind.i64 (x_6 + wr IntKind.i64 (s * x_7))))[Int.toNat (2 : Int)]? = some x_9 → (decide (x_9 < (-3 : Int)) = true → Q true) ∧ (decide (x_9 < (-3 : Int)) = false → ((0 : Int) ≤ (2
  : Int) ∧ (2 : Int) + (1 : Int) ≤ (↑(4 : Nat) : Int)) ∧ Int.toNat (2 : Int) + (1 : Nat) ≤ List.length (List.set (List.set (List.set [(0 : Int), (0 : Int), (0 : Int), (0 : Int)]
  (Int.toNat (0 : Int)) (wr IntKind.i64 (x + wr IntKind.i64 (s * x_1)))) (Int.toNat (1 : Int)) (wr IntKind.i64 (x_3 + wr IntKind.i64 (s * x_4)))) (Int.toNat (2 : Int)) (wr
  IntKind.i64 (x_6 + wr IntKind.i64 (s * x_7)))) ∧ ∀ (x_10 : Int), (List.set (List.set (List.set [(0 : Int), (0 : Int), (0 : Int), (0 : Int)] (Int.toNat (0 : Int)) (wr IntKind.i64 (x
  + wr IntKind.i64 (s * x_1)))) (Int.toNat (1 : Int)) (wr IntKind.i64 (x_3 + wr IntKind.i64 (s * x_4)))) (Int.toNat (2 : Int)) (wr IntKind.i64 (x_6 + wr IntKind.i64 (s *
  x_7))))[Int.toNat (2 : Int)]? = some x_10 → (decide (x_10 > (3 : Int)) = true → Q true) ∧ (decide (x_10 > (3 : Int)) = false → Q false))) ∧ (Q true → (4 : Nat) = (4 : Nat) ∧ (4 :
  Nat) = (4 : Nat) ∧ ((0 : Int) = List.getD (Option.getD o [(0 : Int), (0 : Int), (0 : Int), (0 : Int)]) (0 : Nat) (0 : Int) ∧ (0 : Int) = List.getD (Option.getD o [(0 : Int), (0 :
  Int), (0 : Int), (0 : Int)]) (1 : Nat) (0 : Int) ∧ (0 : Int) = List.getD (Option.getD o [(0 : Int), (0 : Int), (0 : Int), (0 : Int)]) (2 : Nat) (0 : Int) ∧ (0 : Int) = List.getD
  (Option.getD o [(0 : Int), (0 : Int), (0 : Int), (0 : Int)]) (3 : Nat) (0 : Int) ∧ True) ∧ false = Option.isSome o ∧ True) ∧ (Q false → ((0 : Int) ≤ (3 : Int) ∧ (3 : Int) + (1 :
  Int) ≤ (↑(4 : Nat) : Int)) ∧ Int.toNat (3 : Int) + (1 : Nat) ≤ (4 : Nat) ∧ ∀ (x_9 : Int), [List.getD a (0 : Nat) (0 : Int), List.getD a (1 : Nat) (0 : Int), List.getD a (2 : Nat)
  (0 : Int), List.getD a (3 : Nat) (0 : Int)][Int.toNat (3 : Int)]? = some x_9 → ((0 : Int) ≤ (3 : Int) ∧ (3 : Int) + (1 : Int) ≤ (↑(4 : Nat) : Int)) ∧ Int.toNat (3 : Int) + (1 :
  Nat) ≤ (4 : Nat) ∧ ∀ (x_10 : Int), [List.getD b (0 : Nat) (0 : Int), List.getD b (1 : Nat) (0 : Int), List.getD b (2 : Nat) (0 : Int), List.getD b (3 : Nat) (0 : Int)][Int.toNat (3
  : Int)]? = some x_10 → ((0 : Int) ≤ (3 : Int) ∧ (3 : Int) + (1 : Int) ≤ (↑(4 : Nat) : Int)) ∧ (0 : Nat) ≤ Int.toNat (3 : Int) ∧ Int.toNat (3 : Int) + (1 : Nat) ≤ List.length
  (List.set (List.set (List.set [(0 : Int), (0 : Int), (0 : Int), (0 : Int)] (Int.toNat (0 : Int)) (wr IntKind.i64 (x + wr IntKind.i64 (s * x_1)))) (Int.toNat (1 : Int)) (wr
  IntKind.i64 (x_3 + wr IntKind.i64 (s * x_4)))) (Int.toNat (2 : Int)) (wr IntKind.i64 (x_6 + wr IntKind.i64 (s * x_7)))) ∧ ∀ (x_11 : Int), (List.set (List.set (List.set [(0 : Int),
  (0 : Int), (0 : Int), (0 : Int)] (Int.toNat (0 : Int)) (wr IntKind.i64 (x + wr IntKind.i64 (s * x_1)))) (Int.toNat (1 : Int)) (wr IntKind.i64 (x_3 + wr IntKind.i64 (s * x_4))))
  (Int.toNat (2 : Int)) (wr IntKind.i64 (x_6 + wr IntKind.i64 (s * x_7))))[Int.toNat (3 : Int)]? = some x_11 → ∃ (Q : Bool → Prop), (((0 : Int) ≤ (3 : Int) ∧ (3 : Int) + (1 : Int) ≤
  (↑(4 : Nat) : Int)) ∧ Int.toNat (3 : Int) + (1 : Nat) ≤ List.length (List.set (List.set (List.set (List.set [(0 : Int), (0 : Int), (0 : Int), (0 : Int)] (Int.toNat (0 : Int)) (wr
  IntKind.i64 (x + wr IntKind.i64 (s * x_1)))) (Int.toNat (1 : Int)) (wr IntKind.i64 (x_3 + wr IntKind.i64 (s * x_4)))) (Int.toNat (2 : Int)) (wr IntKind.i64 (x_6 + wr IntKind.i64 (s
  * x_7)))) (Int.toNat (3 : Int)) (wr IntKind.i64 (x_9 + wr IntKind.i64 (s * x_10)))) ∧ ∀ (x_12 : Int), (List.set (List.set (List.set (List.set [(0 : Int), (0 : Int), (0 : Int), (0 :
  Int)] (Int.toNat (0 : Int)) (wr IntKind.i64 (x + wr IntKind.i64 (s * x_1)))) (Int.toNat (1 : Int)) (wr IntKind.i64 (x_3 + wr IntKind.i64 (s * x_4)))) (Int.toNat (2 : Int)) (wr
  IntKind.i64 (x_6 + wr IntKind.i64 (s * x_7)))) (Int.toNat (3 : Int)) (wr IntKind.i64 (x_9 + wr IntKind.i64 (s * x_10))))[Int.toNat (3 : Int)]? = some x_12 → (decide (x_12 < (-3 :
  Int)) = true → Q true) ∧ (decide (x_12 < (-3 : Int)) = false → ((0 : Int) ≤ (3 : Int) ∧ (3 : Int) + (1 : Int) ≤ (↑(4 : Nat) : Int)) ∧ Int.toNat (3 : Int) + (1 : Nat) ≤ List.length
  (List.set (List.set (List.set (List.set [(0 : Int), (0 : Int), (0 : Int), (0 : Int)] (Int.toNat (0 : Int)) (wr IntKind.i64 (x + wr IntKind.i64 (s * x_1)))) (Int.toNat (1 : Int))
  (wr IntKind.i64 (x_3 + wr IntKind.i64 (s * x_4)))) (Int.toNat (2 : Int)) (wr IntKind.i64 (x_6 + wr IntKind.i64 (s * x_7)))) (Int.toNat (3 : Int)) (wr IntKind.i64 (x_9 + wr
  IntKind.i64 (s * x_10)))) ∧ ∀ (x_13 : Int), (List.set (List.set (List.set (List.set [(0 : Int), (0 : Int), (0 : Int), (0 : Int)] (Int.toNat (0 : Int)) (wr IntKind.i64 (x + wr
  IntKind.i64 (s * x_1)))) (Int.toNat (1 : Int)) (wr IntKind.i64 (x_3 + wr IntKind.i64 (s * x_4)))) (Int.toNat (2 : Int)) (wr IntKind.i64 (x_6 + wr IntKind.i64 (s * x_7))))
  (Int.toNat (3 : Int)) (wr IntKind.i64 (x_9 + wr IntKind.i64 (s * x_10))))[Int.toNat (3 : Int)]? = some x_13 → (decide (x_13 > (3 : Int)) = true → Q true) ∧ (decide (x_13 > (3 :
  Int)) = false → Q false))) ∧ (Q true → (4 : Nat) = (4 : Nat) ∧ (4 : Nat) = (4 : Nat) ∧ ((0 : Int) = List.getD (Option.getD o [(0 : Int), (0 : Int), (0 : Int), (0 : Int)]) (0 : Nat)
  (0 : Int) ∧ (0 : Int) = List.getD (Option.getD o [(0 : Int), (0 : Int), (0 : Int), (0 : Int)]) (1 : Nat) (0 : Int) ∧ (0 : Int) = List.getD (Option.getD o [(0 : Int), (0 : Int), (0
  : Int), (0 : Int)]) (2 : Nat) (0 : Int) ∧ (0 : Int) = List.getD (Option.getD o [(0 : Int), (0 : Int), (0 : Int), (0 : Int)]) (3 : Nat) (0 : Int) ∧ True) ∧ false = Option.isSome o ∧
  True) ∧ (Q false → List.length (List.set (List.set (List.set (List.set [(0 : Int), (0 : Int), (0 : Int), (0 : Int)] (Int.toNat (0 : Int)) (wr IntKind.i64 (x + wr IntKind.i64 (s *
  x_1)))) (Int.toNat (1 : Int)) (wr IntKind.i64 (x_3 + wr IntKind.i64 (s * x_4)))) (Int.toNat (2 : Int)) (wr IntKind.i64 (x_6 + wr IntKind.i64 (s * x_7)))) (Int.toNat (3 : Int)) (wr
  IntKind.i64 (x_9 + wr IntKind.i64 (s * x_10)))) = (4 : Nat) ∧ (4 : Nat) = (4 : Nat) ∧ (4 : Nat) = (4 : Nat) ∧ (List.getD (List.set (List.set (List.set (List.set [(0 : Int), (0 :
  Int), (0 : Int), (0 : Int)] (Int.toNat (0 : Int)) (wr IntKind.i64 (x + wr IntKind.i64 (s * x_1)))) (Int.toNat (1 : Int)) (wr IntKind.i64 (x_3 + wr IntKind.i64 (s * x_4))))
  (Int.toNat (2 : Int)) (wr IntKind.i64 (x_6 + wr IntKind.i64 (s * x_7)))) (Int.toNat (3 : Int)) (wr IntKind.i64 (x_9 + wr IntKind.i64 (s * x_10)))) (0 : Nat) (0 : Int) = List.getD
  (Option.getD o [(0 : Int), (0 : Int), (0 : Int), (0 : Int)]) (0 : Nat) (0 : Int) ∧ List.getD (List.set (List.set (List.set (List.set [(0 : Int), (0 : Int), (0 : Int), (0 : Int)]
  (Int.toNat (0 : Int)) (wr IntKind.i64 (x + wr IntKind.i64 (s * x_1)))) (Int.toNat (1 : Int)) (wr IntKind.i64 (x_3 + wr IntKind.i64 (s * x_4)))) (Int.toNat (2 : Int)) (wr
  IntKind.i64 (x_6 + wr IntKind.i64 (s * x_7)))) (Int.toNat (3 : Int)) (wr IntKind.i64 (x_9 + wr IntKind.i64 (s * x_10)))) (1 : Nat) (0 : Int) = List.getD (Option.getD o [(0 : Int),
  (0 : Int), (0 : Int), (0 : Int)]) (1 : Nat) (0 : Int) ∧ List.getD (List.set (List.set (List.set (List.set [(0 : Int), (0 : Int), (0 : Int), (0 : Int)] (Int.toNat (0 : Int)) (wr
  IntKind.i64 (x + wr IntKind.i64 (s * x_1)))) (Int.toNat (1 : Int)) (wr IntKind.i64 (x_3 + wr IntKind.i64 (s * x_4)))) (Int.toNat (2 : Int)) (wr IntKind.i64 (x_6 + wr IntKind.i64 (s
  * x_7)))) (Int.toNat (3 : Int)) (wr IntKind.i64 (x_9 + wr IntKind.i64 (s * x_10)))) (2 : Nat) (0 : Int) = List.getD (Option.getD o [(0 : Int), (0 : Int), (0 : Int), (0 : Int)]) (2
  : Nat) (0 : Int) ∧ List.getD (List.set (List.set (List.set (List.set [(0 : Int), (0 : Int), (0 : Int), (0 : Int)] (Int.toNat (0 : Int)) (wr IntKind.i64 (x + wr IntKind.i64 (s *
  x_1)))) (Int.toNat (1 : Int)) (wr IntKind.i64 (x_3 + wr IntKind.i64 (s * x_4)))) (Int.toNat (2 : Int)) (wr IntKind.i64 (x_6 + wr IntKind.i64 (s * x_7)))) (Int.toNat (3 : Int)) (wr
  IntKind.i64 (x_9 + wr IntKind.i64 (s * x_10)))) (3 : Nat) (0 : Int) = List.getD (Option.getD o [(0 : Int), (0 : Int), (0 : Int), (0 : Int)]) (3 : Nat) (0 : Int) ∧ True) ∧ true =
  Option.isSome o ∧ True))))
  ) := by kernel_rfl
--@end
theorem comb_pure (a b : List Int) (s : Int) : PureC E 76 [dimV a, dimV b, .int false .i64 s] (optV (cmb s a b)) := by
  refine pure_of_call E_ok (call0 2000) ?_
  rw [cond_comb]
  have e : ∀ x y, wr IntKind.i64 (x + wr IntKind.i64 (s * y)) = cmb1 s x y := fun _ _ => rfl
  simp only [bif_true, bif_false, bif_nt, bif_tf, bif_ft, beq_iff_eq, bne_iff_ne, beq_eq_false_iff_ne, bne_eq_false_iff_eq, decide_eq_true_eq, decide_eq_false_iff_not, Bool.or_eq_true, Bool.or_eq_false_iff, Bool.not_eq_true', Bool.not_eq_false', Bool.and_eq_true, Bool.and_true, Bool.true_and, Bool.and_eq_false_iff, beq_self_eq_true, mm2_max, mm2_min, ne_eq, and_true, true_and, Bool.true_eq_false, Bool.false_eq_true, false_or, or_false, true_implies, imp_self, Int.ofNat_eq_natCast, not_true_eq_false, not_false_eq_true, Decidable.not_not, List.getElem?_cons_zero, List.getElem?_cons_succ, Option.some.injEq, forall_eq', forall_eq, List.set_cons_zero, List.set_cons_succ, List.length_cons, List.length_nil, List.getD_cons_zero, List.getD_cons_succ, tn0, tn1, tn2, tn3, Int.le_refl, Nat.le_refl, Nat.reduceAdd, Int.reduceAdd, Int.reduceLE, Nat.reduceLeDiff, cn4, cn16, e]
  unfold cmb
  generalize cmb1 s (a.getD 0 0) (b.getD 0 0) = c0
  generalize cmb1 s (a.getD 1 0) (b.getD 1 0) = c1
  generalize cmb1 s (a.getD 2 0) (b.getD 2 0) = c2
  generalize cmb1 s (a.getD 3 0) (b.getD 3 0) = c3
  repeat' (first | omega | (refine q3 _ (fun h => ?_) (fun h => ?_)) | (refine And.intro ?_ ?_))
  all_goals simp [*]
theorem Srules_ok : SumOk E 17 (sumO rulesPre) := sumO_ok E_ok (good_of (f := 17) rfl) fun args v h => by
  unfold rulesPre at h
  split at h
  · cases h; exact rules_pure
  · cases h
theorem SunitB_ok : SumOk E 18 (Sunit 1000000000) := Sunit_ok fun x h => unit_aux _ (Nat.le_refl _) x h
--@cond Unit | 14 | FUnit | 400 | (x : Ex) | [exA x] | (p : List Int × Int) | errV p
--@end
def okP (o : Option (List Int)) : List Int × Int := match o with | some d => (d, 0) | none => ([0, 0, 0, 0], 170)
def unitP (x : Ex) : List Int × Int := if formX x = true then okP (unitX x) else ([0, 0, 0, 0], 1)
end Go.Proofs.YtpllflefaccmkaaGreatDoor

/- Chapter 17: the reference's Unit. -/
namespace Go.Proofs.YtpllflefaccmkaaGreatDoor
open Go
set_option linter.unusedVariables false
set_option linter.unusedSimpArgs false
set_option maxRecDepth 100000
noncomputable def Sattr17 : Sum thy := sumPY (dA1 dN) (fun _ => True) (fun x => attrP x.1) errV
theorem Sattr17_ok : SumOk E 75 Sattr17 := sumPY_ok E_ok (good_of (f := 75) rfl) fun x _ => attr17_pure _
noncomputable def Scomb : Sum thy := sumPY (dA3 (dR .dims) (dR .dims) dN) (fun _ => True) (fun x => cmb x.2.2.1 x.1 x.2.1) optV
theorem Scomb_ok : SumOk E 76 Scomb := sumPY_ok E_ok (good_of (f := 76) rfl) fun x _ => comb_pure _ _ _
noncomputable def Sunit17 (m : Nat) : Sum thy := sumPY dExp (fun x => x.1.sz < m ∧ formX x.1 = true) (fun x => unitX x.1) optV
noncomputable def Funit17 (m : Nat) : Fns thy := addS (addS (addS F0 75 Sattr17) 76 Scomb) 51 (Sunit17 m)
noncomputable def F170 : Fns thy := addS (addS F0 75 Sattr17) 76 Scomb
theorem F170_ok : FnsOk E F170 := addS_ok (addS_ok F0_ok Sattr17_ok) Scomb_ok
--@cond unit17 | 51 | F170>(Funit17 m) | 800 | (m : Nat) (x : Ex) | [exA x] | (o : Option (List Int)) | optV o
theorem cond_unit17 (m : Nat) (x : Ex) (o : Option (List Int)) : callF E F170 (vc E (Funit17 m) 800) 51 [exA x] hp0 0 (fun r => ret E (patch hp0 0 r) r.v (optV o)) = (
  ((Ex.op x == (1 : Int)) = true → (4 : Nat) = (4 : Nat) ∧ (4 : Nat) = (4 : Nat) ∧ (Ex.d0 x = List.getD (Option.getD o [(0 : Int), (0 : Int), (0 : Int), (0 : Int)]) (0 : Nat) (0 :
  Int) ∧ Ex.d1 x = List.getD (Option.getD o [(0 : Int), (0 : Int), (0 : Int), (0 : Int)]) (1 : Nat) (0 : Int) ∧ Ex.d2 x = List.getD (Option.getD o [(0 : Int), (0 : Int), (0 : Int),
  (0 : Int)]) (2 : Nat) (0 : Int) ∧ Ex.d3 x = List.getD (Option.getD o [(0 : Int), (0 : Int), (0 : Int), (0 : Int)]) (3 : Nat) (0 : Int) ∧ True) ∧ true = Option.isSome o ∧ True) ∧
  ((Ex.op x == (1 : Int)) = false → ((Ex.op x == (2 : Int)) = true → True ∧ ∀ (y : List Int × Int), y = attrP (Ex.n x) → (4 : Nat) = (4 : Nat) ∧ (4 : Nat) = (4 : Nat) ∧ (4 : Nat) =
  (4 : Nat) ∧ (4 : Nat) = (4 : Nat) ∧ (List.getD (Prod.fst y) (0 : Nat) (0 : Int) = List.getD (Option.getD o [(0 : Int), (0 : Int), (0 : Int), (0 : Int)]) (0 : Nat) (0 : Int) ∧
  List.getD (Prod.fst y) (1 : Nat) (0 : Int) = List.getD (Option.getD o [(0 : Int), (0 : Int), (0 : Int), (0 : Int)]) (1 : Nat) (0 : Int) ∧ List.getD (Prod.fst y) (2 : Nat) (0 : Int)
  = List.getD (Option.getD o [(0 : Int), (0 : Int), (0 : Int), (0 : Int)]) (2 : Nat) (0 : Int) ∧ List.getD (Prod.fst y) (3 : Nat) (0 : Int) = List.getD (Option.getD o [(0 : Int), (0
  : Int), (0 : Int), (0 : Int)]) (3 : Nat) (0 : Int) ∧ True) ∧ true = Option.isSome o ∧ True) ∧ ((Ex.op x == (2 : Int)) = false → (0 : Int) ≤ (0 : Int) ∧ (0 : Int) + (1 : Int) ≤
  (↑(List.length (Ex.l x)) : Int) ∧ ∀ (x_1 : Ex), (Ex.l x)[Int.toNat (0 : Int)]? = some x_1 → (Ex.sz (Ex.mk (Ex.op x_1) (Ex.n x_1) (Ex.d0 x_1) (Ex.d1 x_1) (Ex.d2 x_1) (Ex.d3 x_1)
  (Ex.l x_1)) + (1 : Nat) ≤ m ∧ formX (Ex.mk (Ex.op x_1) (Ex.n x_1) (Ex.d0 x_1) (Ex.d1 x_1) (Ex.d2 x_1) (Ex.d3 x_1) (Ex.l x_1)) = true) ∧ ∀ (y : Option (List Int)), y = unitX (Ex.mk
  (Ex.op x_1) (Ex.n x_1) (Ex.d0 x_1) (Ex.d1 x_1) (Ex.d2 x_1) (Ex.d3 x_1) (Ex.l x_1)) → (4 : Nat) = (4 : Nat) ∧ (0 : Int) ≤ (1 : Int) ∧ (1 : Int) + (1 : Int) ≤ (↑(List.length (Ex.l
  x)) : Int) ∧ ∀ (x_2 : Ex), (Ex.l x)[Int.toNat (1 : Int)]? = some x_2 → (Ex.sz (Ex.mk (Ex.op x_2) (Ex.n x_2) (Ex.d0 x_2) (Ex.d1 x_2) (Ex.d2 x_2) (Ex.d3 x_2) (Ex.l x_2)) + (1 : Nat)
  ≤ m ∧ formX (Ex.mk (Ex.op x_2) (Ex.n x_2) (Ex.d0 x_2) (Ex.d1 x_2) (Ex.d2 x_2) (Ex.d3 x_2) (Ex.l x_2)) = true) ∧ ∀ (y_1 : Option (List Int)), y_1 = unitX (Ex.mk (Ex.op x_2) (Ex.n
  x_2) (Ex.d0 x_2) (Ex.d1 x_2) (Ex.d2 x_2) (Ex.d3 x_2) (Ex.l x_2)) → (4 : Nat) = (4 : Nat) ∧ ∃ (Q : Bool → Prop), (((!Option.isSome y) = true → Q true) ∧ ((!Option.isSome y) = false
  → Q !Option.isSome y_1)) ∧ (Q true → (4 : Nat) = (4 : Nat) ∧ (4 : Nat) = (4 : Nat) ∧ ((0 : Int) = List.getD (Option.getD o [(0 : Int), (0 : Int), (0 : Int), (0 : Int)]) (0 : Nat)
  (0 : Int) ∧ (0 : Int) = List.getD (Option.getD o [(0 : Int), (0 : Int), (0 : Int), (0 : Int)]) (1 : Nat) (0 : Int) ∧ (0 : Int) = List.getD (Option.getD o [(0 : Int), (0 : Int), (0
  : Int), (0 : Int)]) (2 : Nat) (0 : Int) ∧ (0 : Int) = List.getD (Option.getD o [(0 : Int), (0 : Int), (0 : Int), (0 : Int)]) (3 : Nat) (0 : Int) ∧ True) ∧ false = Option.isSome o ∧
  True) ∧ (Q false → ((Ex.op x == (5 : Int)) = true → (4 : Nat) = (4 : Nat) ∧ (4 : Nat) = (4 : Nat) ∧ True ∧ ∀ (y_2 : Option (List Int)), y_2 = cmb (1 : Int) [List.getD (Option.getD
  y [(0 : Int), (0 : Int), (0 : Int), (0 : Int)]) (0 : Nat) (0 : Int), List.getD (Option.getD y [(0 : Int), (0 : Int), (0 : Int), (0 : Int)]) (1 : Nat) (0 : Int), List.getD
  (Option.getD y [(0 : Int), (0 : Int), (0 : Int), (0 : Int)]) (2 : Nat) (0 : Int), List.getD (Option.getD y [(0 : Int), (0 : Int), (0 : Int), (0 : Int)]) (3 : Nat) (0 : Int)]
  [List.getD (Option.getD y_1 [(0 : Int), (0 : Int), (0 : Int), (0 : Int)]) (0 : Nat) (0 : Int), List.getD (Option.getD y_1 [(0 : Int), (0 : Int), (0 : Int), (0 : Int)]) (1 : Nat) (0
  : Int), List.getD (Option.getD y_1 [(0 : Int), (0 : Int), (0 : Int), (0 : Int)]) (2 : Nat) (0 : Int), List.getD (Option.getD y_1 [(0 : Int), (0 : Int), (0 : Int), (0 : Int)]) (3 :
  Nat) (0 : Int)] → (4 : Nat) = (4 : Nat) ∧ (4 : Nat) = (4 : Nat) ∧ (List.getD (Option.getD y_2 [(0 : Int), (0 : Int), (0 : Int), (0 : Int)]) (0 : Nat) (0 : Int) = List.getD
  (Option.getD o [(0 : Int), (0 : Int), (0 : Int), (0 : Int)]) (0 : Nat) (0 : Int) ∧ List.getD (Option.getD y_2 [(0 : Int), (0 : Int), (0 : Int), (0 : Int)]) (1 : Nat) (0 : Int) =
  List.getD (Option.getD o [(0 : Int), (0 : Int), (0 : Int), (0 : Int)]) (1 : Nat) (0 : Int) ∧ List.getD (Option.getD y_2 [(0 : Int), (0 : Int), (0 : Int), (0 : Int)]) (2 : Nat) (0 :
  Int) = List.getD (Option.getD o [(0 : Int), (0 : Int), (0 : Int), (0 : Int)]) (2 : Nat) (0 : Int) ∧ List.getD (Option.getD y_2 [(0 : Int), (0 : Int), (0 : Int), (0 : Int)]) (3 :
  Nat) (0 : Int) = List.getD (Option.getD o [(0 : Int), (0 : Int), (0 : Int), (0 : Int)]) (3 : Nat) (0 : Int) ∧ True) ∧ Option.isSome y_2 = Option.isSome o ∧ True) ∧ ((Ex.op x == (5
  : Int)) = false → ((Ex.op x == (8 : Int)) = true → (4 : Nat) = (4 : Nat) ∧ (4 : Nat) = (4 : Nat) ∧ True ∧ ∀ (y_2 : Option (List Int)), y_2 = cmb (-1 : Int) [List.getD (Option.getD
  y [(0 : Int), (0 : Int), (0 : Int), (0 : Int)]) (0 : Nat) (0 : Int), List.getD (Option.getD y [(0 : Int), (0 : Int), (0 : Int), (0 : Int)]) (1 : Nat) (0 : Int), List.getD
  (Option.getD y [(0 : Int), (0 : Int), (0 : Int), (0 : Int)]) (2 : Nat) (0 : Int), List.getD (Option.getD y [(0 : Int), (0 : Int), (0 : Int), (0 : Int)]) (3 : Nat) (0 : Int)]
  [List.getD (Option.getD y_1 [(0 : Int), (0 : Int), (0 : Int), (0 : Int)]) (0 : Nat) (0 : Int), List.getD (Option.getD y_1 [(0 : Int), (0 : Int), (0 : Int), (0 : Int)]) (1 : Nat) (0
  : Int), List.getD (Option.getD y_1 [(0 : Int), (0 : Int), (0 : Int), (0 : Int)]) (2 : Nat) (0 : Int), List.getD (Option.getD y_1 [(0 : Int), (0 : Int), (0 : Int), (0 : Int)]) (3 :
  Nat) (0 : Int)] → (4 : Nat) = (4 : Nat) ∧ (4 : Nat) = (4 : Nat) ∧ (List.getD (Option.getD y_2 [(0 : Int), (0 : Int), (0 : Int), (0 : Int)]) (0 : Nat) (0 : Int) = List.getD
  (Option.getD o [(0 : Int), (0 : Int), (0 : Int), (0 : Int)]) (0 : Nat) (0 : Int) ∧ List.getD (Option.getD y_2 [(0 : Int), (0 : Int), (0 : Int), (0 : Int)]) (1 : Nat) (0 : Int) =
  List.getD (Option.getD o [(0 : Int), (0 : Int), (0 : Int), (0 : Int)]) (1 : Nat) (0 : Int) ∧ List.getD (Option.getD y_2 [(0 : Int), (0 : Int), (0 : Int), (0 : Int)]) (2 : Nat) (0 :
  Int) = List.getD (Option.getD o [(0 : Int), (0 : Int), (0 : Int), (0 : Int)]) (2 : Nat) (0 : Int) ∧ List.getD (Option.getD y_2 [(0 : Int), (0 : Int), (0 : Int), (0 : Int)]) (3 :
  Nat) (0 : Int) = List.getD (Option.getD o [(0 : Int), (0 : Int), (0 : Int), (0 : Int)]) (3 : Nat) (0 : Int) ∧ True) ∧ Option.isSome y_2 = Option.isSome o ∧ True) ∧ ((Ex.op x == (8
  : Int)) = false → ((Ex.op x == (9 : Int)) = true → (4 : Nat) = (4 : Nat) ∧ (4 : Nat) = (4 : Nat) ∧ True ∧ ∀ (y_2 : Option (List Int)), y_2 = cmb (-1 : Int) [List.getD (Option.getD
  y [(0 : Int), (0 : Int), (0 : Int), (0 : Int)]) (0 : Nat) (0 : Int), List.getD (Option.getD y [(0 : Int), (0 : Int), (0 : Int), (0 : Int)]) (1 : Nat) (0 : Int), List.getD
  (Option.getD y [(0 : Int), (0 : Int), (0 : Int), (0 : Int)]) (2 : Nat) (0 : Int), List.getD (Option.getD y [(0 : Int), (0 : Int), (0 : Int), (0 : Int)]) (3 : Nat) (0 : Int)]
  [List.getD (Option.getD y_1 [(0 : Int), (0 : Int), (0 : Int), (0 : Int)]) (0 : Nat) (0 : Int), List.getD (Option.getD y_1 [(0 : Int), (0 : Int), (0 : Int), (0 : Int)]) (1 : Nat) (0
  : Int), List.getD (Option.getD y_1 [(0 : Int), (0 : Int), (0 : Int), (0 : Int)]) (2 : Nat) (0 : Int), List.getD (Option.getD y_1 [(0 : Int), (0 : Int), (0 : Int), (0 : Int)]) (3 :
  Nat) (0 : Int)] → (4 : Nat) = (4 : Nat) ∧ (4 : Nat) = (4 : Nat) ∧ (List.getD (Option.getD y_2 [(0 : Int), (0 : Int), (0 : Int), (0 : Int)]) (0 : Nat) (0 : Int) = List.getD
  (Option.getD o [(0 : Int), (0 : Int), (0 : Int), (0 : Int)]) (0 : Nat) (0 : Int) ∧ List.getD (Option.getD y_2 [(0 : Int), (0 : Int), (0 : Int), (0 : Int)]) (1 : Nat) (0 : Int) =
  List.getD (Option.getD o [(0 : Int), (0 : Int), (0 : Int), (0 : Int)]) (1 : Nat) (0 : Int) ∧ List.getD (Option.getD y_2 [(0 : Int), (0 : Int), (0 : Int), (0 : Int)]) (2 : Nat) (0 :
  Int) = List.getD (Option.getD o [(0 : Int), (0 : Int), (0 : Int), (0 : Int)]) (2 : Nat) (0 : Int) ∧ List.getD (Option.getD y_2 [(0 : Int), (0 : Int), (0 : Int), (0 : Int)]) (3 :
  Nat) (0 : Int) = List.getD (Option.getD o [(0 : Int), (0 : Int), (0 : Int), (0 : Int)]) (3 : Nat) (0 : Int) ∧ True) ∧ Option.isSome y_2 = Option.isSome o ∧ True) ∧ ((Ex.op x == (9
  : Int)) = false → ((Ex.op x == (10 : Int)) = true → (4 : Nat) = (4 : Nat) ∧ (4 : Nat) = (4 : Nat) ∧ True ∧ ∀ (y_2 : Option (List Int)), y_2 = cmb (-1 : Int) [List.getD (Option.getD
  y [(0 : Int), (0 : Int), (0 : Int), (0 : Int)]) (0 : Nat) (0 : Int), List.getD (Option.getD y [(0 : Int), (0 : Int), (0 : Int), (0 : Int)]) (1 : Nat) (0 : Int), List.getD
  (Option.getD y [(0 : Int), (0 : Int), (0 : Int), (0 : Int)]) (2 : Nat) (0 : Int), List.getD (Option.getD y [(0 : Int), (0 : Int), (0 : Int), (0 : Int)]) (3 : Nat) (0 : Int)]
  [List.getD (Option.getD y_1 [(0 : Int), (0 : Int), (0 : Int), (0 : Int)]) (0 : Nat) (0 : Int), List.getD (Option.getD y_1 [(0 : Int), (0 : Int), (0 : Int), (0 : Int)]) (1 : Nat) (0
  : Int), List.getD (Option.getD y_1 [(0 : Int), (0 : Int), (0 : Int), (0 : Int)]) (2 : Nat) (0 : Int), List.getD (Option.getD y_1 [(0 : Int), (0 : Int), (0 : Int), (0 : Int)]) (3 :
  Nat) (0 : Int)] → (4 : Nat) = (4 : Nat) ∧ (4 : Nat) = (4 : Nat) ∧ (List.getD (Option.getD y_2 [(0 : Int), (0 : Int), (0 : Int), (0 : Int)]) (0 : Nat) (0 : Int) = List.getD
  (Option.getD o [(0 : Int), (0 : Int), (0 : Int), (0 : Int)]) (0 : Nat) (0 : Int) ∧ List.getD (Option.getD y_2 [(0 : Int), (0 : Int), (0 : Int), (0 : Int)]) (1 : Nat) (0 : Int) =
  List.getD (Option.getD o [(0 : Int), (0 : Int), (0 : Int), (0 : Int)]) (1 : Nat) (0 : Int) ∧ List.getD (Option.getD y_2 [(0 : Int), (0 : Int), (0 : Int), (0 : Int)]) (2 : Nat) (0 :
  Int) = List.getD (Option.getD o [(0 : Int), (0 : Int), (0 : Int), (0 : Int)]) (2 : Nat) (0 : Int) ∧ List.getD (Option.getD y_2 [(0 : Int), (0 : Int), (0 : Int), (0 : Int)]) (3 :
  Nat) (0 : Int) = List.getD (Option.getD o [(0 : Int), (0 : Int), (0 : Int), (0 : Int)]) (3 : Nat) (0 : Int) ∧ True) ∧ Option.isSome y_2 = Option.isSome o ∧ True) ∧ ((Ex.op x == (10
  : Int)) = false → ((Ex.op x == (11 : Int)) = true → (0 : Int) ≤ (2 : Int) ∧ (2 : Int) + (1 : Int) ≤ (↑(List.length (Ex.l x)) : Int) ∧ ∀ (x_3 : Ex), (Ex.l x)[Int.toNat (2 : Int)]? =
  some x_3 → (Ex.sz (Ex.mk (Ex.op x_3) (Ex.n x_3) (Ex.d0 x_3) (Ex.d1 x_3) (Ex.d2 x_3) (Ex.d3 x_3) (Ex.l x_3)) + (1 : Nat) ≤ m ∧ formX (Ex.mk (Ex.op x_3) (Ex.n x_3) (Ex.d0 x_3) (Ex.d1
  x_3) (Ex.d2 x_3) (Ex.d3 x_3) (Ex.l x_3)) = true) ∧ ∀ (y_2 : Option (List Int)), y_2 = unitX (Ex.mk (Ex.op x_3) (Ex.n x_3) (Ex.d0 x_3) (Ex.d1 x_3) (Ex.d2 x_3) (Ex.d3 x_3) (Ex.l
  x_3)) → (4 : Nat) = (4 : Nat) ∧ (0 : Int) ≤ (3 : Int) ∧ (3 : Int) + (1 : Int) ≤ (↑(List.length (Ex.l x)) : Int) ∧ ∀ (x_4 : Ex), (Ex.l x)[Int.toNat (3 : Int)]? = some x_4 → (Ex.sz
  (Ex.mk (Ex.op x_4) (Ex.n x_4) (Ex.d0 x_4) (Ex.d1 x_4) (Ex.d2 x_4) (Ex.d3 x_4) (Ex.l x_4)) + (1 : Nat) ≤ m ∧ formX (Ex.mk (Ex.op x_4) (Ex.n x_4) (Ex.d0 x_4) (Ex.d1 x_4) (Ex.d2 x_4)
  (Ex.d3 x_4) (Ex.l x_4)) = true) ∧ ∀ (y_3 : Option (List Int)), y_3 = unitX (Ex.mk (Ex.op x_4) (Ex.n x_4) (Ex.d0 x_4) (Ex.d1 x_4) (Ex.d2 x_4) (Ex.d3 x_4) (Ex.l x_4)) → (4 : Nat) =
  (4 : Nat) ∧ ∃ (Q : Bool → Prop), (((!Option.isSome y_2) = true → Q true) ∧ ((!Option.isSome y_2) = false → ((!Option.isSome y_3) = true → Q true) ∧ ((!Option.isSome y_3) = false →
  (4 : Nat) = (4 : Nat) ∧ (4 : Nat) = (4 : Nat) ∧ ((!(List.getD (Option.getD y [(0 : Int), (0 : Int), (0 : Int), (0 : Int)]) (0 : Nat) (0 : Int) == List.getD (Option.getD y_1 [(0 :
  Int), (0 : Int), (0 : Int), (0 : Int)]) (0 : Nat) (0 : Int) && (List.getD (Option.getD y [(0 : Int), (0 : Int), (0 : Int), (0 : Int)]) (1 : Nat) (0 : Int) == List.getD (Option.getD
  y_1 [(0 : Int), (0 : Int), (0 : Int), (0 : Int)]) (1 : Nat) (0 : Int) && (List.getD (Option.getD y [(0 : Int), (0 : Int), (0 : Int), (0 : Int)]) (2 : Nat) (0 : Int) == List.getD
  (Option.getD y_1 [(0 : Int), (0 : Int), (0 : Int), (0 : Int)]) (2 : Nat) (0 : Int) && (List.getD (Option.getD y [(0 : Int), (0 : Int), (0 : Int), (0 : Int)]) (3 : Nat) (0 : Int) ==
  List.getD (Option.getD y_1 [(0 : Int), (0 : Int), (0 : Int), (0 : Int)]) (3 : Nat) (0 : Int) && true))))) = true → Q true) ∧ ((!(List.getD (Option.getD y [(0 : Int), (0 : Int), (0
  : Int), (0 : Int)]) (0 : Nat) (0 : Int) == List.getD (Option.getD y_1 [(0 : Int), (0 : Int), (0 : Int), (0 : Int)]) (0 : Nat) (0 : Int) && (List.getD (Option.getD y [(0 : Int), (0
  : Int), (0 : Int), (0 : Int)]) (1 : Nat) (0 : Int) == List.getD (Option.getD y_1 [(0 : Int), (0 : Int), (0 : Int), (0 : Int)]) (1 : Nat) (0 : Int) && (List.getD (Option.getD y [(0
  : Int), (0 : Int), (0 : Int), (0 : Int)]) (2 : Nat) (0 : Int) == List.getD (Option.getD y_1 [(0 : Int), (0 : Int), (0 : Int), (0 : Int)]) (2 : Nat) (0 : Int) && (List.getD
  (Option.getD y [(0 : Int), (0 : Int), (0 : Int), (0 : Int)]) (3 : Nat) (0 : Int) == List.getD (Option.getD y_1 [(0 : Int), (0 : Int), (0 : Int), (0 : Int)]) (3 : Nat) (0 : Int) &&
  true))))) = false → (4 : Nat) = (4 : Nat) ∧ (4 : Nat) = (4 : Nat) ∧ ((!(List.getD (Option.getD y_2 [(0 : Int), (0 : Int), (0 : Int), (0 : Int)]) (0 : Nat) (0 : Int) == List.getD
  (Option.getD y_3 [(0 : Int), (0 : Int), (0 : Int), (0 : Int)]) (0 : Nat) (0 : Int) && (List.getD (Option.getD y_2 [(0 : Int), (0 : Int), (0 : Int), (0 : Int)]) (1 : Nat) (0 : Int)
  == List.getD (Option.getD y_3 [(0 : Int), (0 : Int), (0 : Int), (0 : Int)]) (1 : Nat) (0 : Int) && (List.getD (Option.getD y_2 [(0 : Int), (0 : Int), (0 : Int), (0 : Int)]) (2 :
  Nat) (0 : Int) == List.getD (Option.getD y_3 [(0 : Int), (0 : Int), (0 : Int), (0 : Int)]) (2 : Nat) (0 : Int) && (List.getD (Option.getD y_2 [(0 : Int), (0 : Int), (0 : Int), (0 :
  Int)]) (3 : Nat) (0 : Int) == List.getD (Option.getD y_3 [(0 : Int), (0 : Int), (0 : Int), (0 : Int)]) (3 : Nat) (0 : Int) && true))))) = true → Q true) ∧ ((!(List.getD
  (Option.getD y_2 [(0 : Int), (0 : Int), (0 : Int), (0 : Int)]) (0 : Nat) (0 : Int) == List.getD (Option.getD y_3 [(0 : Int), (0 : Int), (0 : Int), (0 : Int)]) (0 : Nat) (0 : Int)
  && (List.getD (Option.getD y_2 [(0 : Int), (0 : Int), (0 : Int), (0 : Int)]) (1 : Nat) (0 : Int) == List.getD (Option.getD y_3 [(0 : Int), (0 : Int), (0 : Int), (0 : Int)]) (1 :
  Nat) (0 : Int) && (List.getD (Option.getD y_2 [(0 : Int), (0 : Int), (0 : Int), (0 : Int)]) (2 : Nat) (0 : Int) == List.getD (Option.getD y_3 [(0 : Int), (0 : Int), (0 : Int), (0 :
  Int)]) (2 : Nat) (0 : Int) && (List.getD (Option.getD y_2 [(0 : Int), (0 : Int), (0 : Int), (0 : Int)]) (3 : Nat) (0 : Int) == List.getD (Option.getD y_3 [(0 : Int), (0 : Int), (0
  : Int), (0 : Int)]) (3 : Nat) (0 : Int) && true))))) = false → Q false))))) ∧ (Q true → (4 : Nat) = (4 : Nat) ∧ (4 : Nat) = (4 : Nat) ∧ ((0 : Int) = List.getD (Option.getD o [(0 :
  Int), (0 : Int), (0 : Int), (0 : Int)]) (0 : Nat) (0 : Int) ∧ (0 : Int) = List.getD (Option.getD o [(0 : Int), (0 : Int), (0 : Int), (0 : Int)]) (1 : Nat) (0 : Int) ∧ (0 : Int) =
  List.getD (Option.getD o [(0 : Int), (0 : Int), (0 : Int), (0 : Int)]) (2 : Nat) (0 : Int) ∧ (0 : Int) = List.getD (Option.getD o [(0 : Int), (0 : Int), (0 : Int), (0 : Int)]) (3 :
  Nat) (0 : Int) ∧ True) ∧ false = Option.isSome o ∧ True) ∧ (Q false → (4 : Nat) = (4 : Nat) ∧ (4 : Nat) = (4 : Nat) ∧ (4 : Nat) = (4 : Nat) ∧ (List.getD (Option.getD y_2 [(0 :
  Int), (0 : Int), (0 : Int), (0 : Int)]) (0 : Nat) (0 : Int) = List.getD (Option.getD o [(0 : Int), (0 : Int), (0 : Int), (0 : Int)]) (0 : Nat) (0 : Int) ∧ List.getD (Option.getD
  y_2 [(0 : Int), (0 : Int), (0 : Int), (0 : Int)]) (1 : Nat) (0 : Int) = List.getD (Option.getD o [(0 : Int), (0 : Int), (0 : Int), (0 : Int)]) (1 : Nat) (0 : Int) ∧ List.getD
  (Option.getD y_2 [(0 : Int), (0 : Int), (0 : Int), (0 : Int)]) (2 : Nat) (0 : Int) = List.getD (Option.getD o [(0 : Int), (0 : Int), (0 : Int), (0 : Int)]) (2 : Nat) (0 : Int) ∧
  List.getD (Option.getD y_2 [(0 : Int), (0 : Int), (0 : Int), (0 : Int)]) (3 : Nat) (0 : Int) = List.getD (Option.getD o [(0 : Int), (0 : Int), (0 : Int), (0 : Int)]) (3 : Nat) (0 :
  Int) ∧ True) ∧ true = Option.isSome o ∧ True)) ∧ ((Ex.op x == (11 : Int)) = false → (4 : Nat) = (4 : Nat) ∧ (4 : Nat) = (4 : Nat) ∧ ((!(List.getD (Option.getD y [(0 : Int), (0 :
  Int), (0 : Int), (0 : Int)]) (0 : Nat) (0 : Int) == List.getD (Option.getD y_1 [(0 : Int), (0 : Int), (0 : Int), (0 : Int)]) (0 : Nat) (0 : Int) && (List.getD (Option.getD y [(0 :
  Int), (0 : Int), (0 : Int), (0 : Int)]) (1 : Nat) (0 : Int) == List.getD (Option.getD y_1 [(0 : Int), (0 : Int), (0 : Int), (0 : Int)]) (1 : Nat) (0 : Int) && (List.getD
  (Option.getD y [(0 : Int), (0 : Int), (0 : Int), (0 : Int)]) (2 : Nat) (0 : Int) == List.getD (Option.getD y_1 [(0 : Int), (0 : Int), (0 : Int), (0 : Int)]) (2 : Nat) (0 : Int) &&
  (List.getD (Option.getD y [(0 : Int), (0 : Int), (0 : Int), (0 : Int)]) (3 : Nat) (0 : Int) == List.getD (Option.getD y_1 [(0 : Int), (0 : Int), (0 : Int), (0 : Int)]) (3 : Nat) (0
  : Int) && true))))) = true → (4 : Nat) = (4 : Nat) ∧ (4 : Nat) = (4 : Nat) ∧ ((0 : Int) = List.getD (Option.getD o [(0 : Int), (0 : Int), (0 : Int), (0 : Int)]) (0 : Nat) (0 : Int)
  ∧ (0 : Int) = List.getD (Option.getD o [(0 : Int), (0 : Int), (0 : Int), (0 : Int)]) (1 : Nat) (0 : Int) ∧ (0 : Int) = List.getD (Option.getD o [(0 : Int), (0 : Int), (0 : Int), (0
  : Int)]) (2 : Nat) (0 : Int) ∧ (0 : Int) = List.getD (Option.getD o [(0 : Int), (0 : Int), (0 : Int), (0 : Int)]) (3 : Nat) (0 : Int) ∧ True) ∧ false = Option.isSome o ∧ True) ∧
  ((!(List.getD (Option.getD y [(0 : Int), (0 : Int), (0 : Int), (0 : Int)]) (0 : Nat) (0 : Int) == List.getD (Option.getD y_1 [(0 : Int), (0 : Int), (0 : Int), (0 : Int)]) (0 : Nat)
  (0 : Int) && (List.getD (Option.getD y [(0 : Int), (0 : Int), (0 : Int), (0 : Int)]) (1 : Nat) (0 : Int) == List.getD (Option.getD y_1 [(0 : Int), (0 : Int), (0 : Int), (0 : Int)])
  (1 : Nat) (0 : Int) && (List.getD (Option.getD y [(0 : Int), (0 : Int), (0 : Int), (0 : Int)]) (2 : Nat) (0 : Int) == List.getD (Option.getD y_1 [(0 : Int), (0 : Int), (0 : Int),
  (0 : Int)]) (2 : Nat) (0 : Int) && (List.getD (Option.getD y [(0 : Int), (0 : Int), (0 : Int), (0 : Int)]) (3 : Nat) (0 : Int) == List.getD (Option.getD y_1 [(0 : Int), (0 : Int),
  (0 : Int), (0 : Int)]) (3 : Nat) (0 : Int) && true))))) = false → (4 : Nat) = (4 : Nat) ∧ (4 : Nat) = (4 : Nat) ∧ (4 : Nat) = (4 : Nat) ∧ (List.getD (Option.getD y [(0 : Int), (0 :
  Int), (0 : Int), (0 : Int)]) (0 : Nat) (0 : Int) = List.getD (Option.getD o [(0 : Int), (0 : Int), (0 : Int), (0 : Int)]) (0 : Nat) (0 : Int) ∧ List.getD (Option.getD y [(0 : Int),
  (0 : Int), (0 : Int), (0 : Int)]) (1 : Nat) (0 : Int) = List.getD (Option.getD o [(0 : Int), (0 : Int), (0 : Int), (0 : Int)]) (1 : Nat) (0 : Int) ∧ List.getD (Option.getD y [(0 :
  Int), (0 : Int), (0 : Int), (0 : Int)]) (2 : Nat) (0 : Int) = List.getD (Option.getD o [(0 : Int), (0 : Int), (0 : Int), (0 : Int)]) (2 : Nat) (0 : Int) ∧ List.getD (Option.getD y
  [(0 : Int), (0 : Int), (0 : Int), (0 : Int)]) (3 : Nat) (0 : Int) = List.getD (Option.getD o [(0 : Int), (0 : Int), (0 : Int), (0 : Int)]) (3 : Nat) (0 : Int) ∧ True) ∧ true =
  Option.isSome o ∧ True)))))))))
  ) := by kernel_rfl
--@end
theorem q2 {a b : Option (List Int)} {Kt Kf : Prop} (h1 : (a = none ∨ b = none) → Kt) (h2 : ∀ c d, a = some c → b = some d → Kf) : ∃ Q : Bool → Prop, ((a.isSome = false → Q true) ∧ (a.isSome = true → Q (!b.isSome))) ∧ (Q true → Kt) ∧ (Q false → Kf) := by
  cases a with
  | none => exact ⟨fun q => q = true, ⟨fun _ => rfl, fun h => by simp at h⟩, fun _ => h1 (.inl rfl), fun h => (by cases h)⟩
  | some c =>
    cases b with
    | none => exact ⟨fun q => q = true, ⟨fun h => by simp at h, fun _ => rfl⟩, fun _ => h1 (.inr rfl), fun h => (by cases h)⟩
    | some d => exact ⟨fun q => q = false, ⟨fun h => by simp at h, fun _ => rfl⟩, fun h => (by cases h), fun _ => h2 c d rfl rfl⟩
theorem ruleD_mul {op : Int} {c d : List Int} {r : List (List Int)} (h : op = 5) : ruleD op (c :: d :: r) = cmb 1 c d := by unfold ruleD; rw [if_pos h]; rfl
theorem ruleD_div {op : Int} {c d : List Int} {r : List (List Int)} (h : op = 8 ∨ op = 9 ∨ op = 10) : ruleD op (c :: d :: r) = cmb (-1) c d := by unfold ruleD; rw [if_neg (by omega), if_pos h]; rfl
theorem ruleD_eq {op : Int} {c d : List Int} {r : List (List Int)} (h : op ≠ 5 ∧ op ≠ 8 ∧ op ≠ 9 ∧ op ≠ 10 ∧ op ≠ 11) : ruleD op (c :: d :: r) = if c = d then some c else none := by unfold ruleD; rw [if_neg (by omega), if_neg (by omega), if_neg (by omega)]; rfl
theorem ruleD_if {op : Int} {c d e f : List Int} {r : List (List Int)} (h : op = 11) : ruleD op (c :: d :: e :: f :: r) = if c = d ∧ e = f then some e else none := by unfold ruleD; rw [if_neg (by omega), if_neg (by omega), if_pos h]; rfl
theorem ne_of4 {c d : List Int} (hc : Is4 c) (hd : Is4 d) (h : ¬ c.getD 0 0 = d.getD 0 0 ∨ ¬ c.getD 1 0 = d.getD 1 0 ∨ ¬ c.getD 2 0 = d.getD 2 0 ∨ ¬ c.getD 3 0 = d.getD 3 0) : c ≠ d := by
  have := eq4_f h
  rw [eq4_iff hc hd] at this
  exact of_decide_eq_false this
theorem eq_of4 {c d : List Int} (hc : Is4 c) (hd : Is4 d) (h : c.getD 0 0 = d.getD 0 0 ∧ c.getD 1 0 = d.getD 1 0 ∧ c.getD 2 0 = d.getD 2 0 ∧ c.getD 3 0 = d.getD 3 0) : c = d := by
  have := eq4_t h
  rw [eq4_iff hc hd] at this
  exact of_decide_eq_true this
theorem unit17_aux : ∀ (m : Nat) (x : Ex), x.sz < m → formX x = true → PureC E 51 [exA x] (optV (unitX x)) := by
  intro m
  induction m with
  | zero => intro x h; omega
  | succ m ih =>
    intro x hm hf
    have hF : FnsOk E (Funit17 m) := addS_ok F170_ok (sumPY_ok E_ok (good_of (f := 51) rfl) fun x h => ih x.1 h.1 h.2)
    refine pure_of_call E_ok (callF_ok E_ok F170_ok fun f N c => (vc_ok E_ok hF 800 f N c).1) ?_
    rw [cond_unit17]
    have hsz := x.sz_eq
    obtain ⟨⟨f1, f2, f3, f4, f5, f6, f7, f8, f9, f10⟩, f11, f12⟩ := (formX_iff x).1 hf
    rw [unitX_eq]
    simp only [bif_true, bif_false, bif_nt, bif_tf, bif_ft, beq_iff_eq, bne_iff_ne, beq_eq_false_iff_ne, bne_eq_false_iff_eq, decide_eq_true_eq, decide_eq_false_iff_not, Bool.or_eq_true, Bool.or_eq_false_iff, Bool.not_eq_true', Bool.not_eq_false', Bool.and_eq_true, Bool.and_true, Bool.true_and, Bool.and_eq_false_iff, beq_self_eq_true, mm2_max, mm2_min, ne_eq, and_true, true_and, Bool.true_eq_false, Bool.false_eq_true, false_or, or_false, true_implies, imp_self, Int.ofNat_eq_natCast, not_true_eq_false, not_false_eq_true, Decidable.not_not, List.getElem?_cons_zero, List.getElem?_cons_succ, Option.some.injEq, forall_eq', forall_eq, List.set_cons_zero, List.set_cons_succ, List.length_cons, List.length_nil, List.getD_cons_zero, List.getD_cons_succ, tn0, tn1, tn2, tn3, Int.le_refl, Nat.le_refl, Nat.reduceAdd, Int.reduceAdd, Int.reduceLE, Nat.reduceLeDiff, cn4, cn16, Ex.eta]
    refine And.intro (fun h1 => ?_) (fun h1 => And.intro (fun h2 => ?_) (fun h2 => ?_))
    · rw [if_pos h1]
      exact ⟨⟨rfl, rfl, rfl, rfl⟩, rfl⟩
    · rw [if_neg h1, if_pos h2]
      have : attrP x.n = (attrD x.n, 0) := by unfold attrP; rw [if_pos (by omega)]
      rw [this]
      exact ⟨⟨rfl, rfl, rfl, rfl⟩, rfl⟩
    · rw [if_neg h1, if_neg h2]
      by_cases h11 : x.op = 11
      · have hl := f8 h11
        obtain ⟨a, b, a', b', hl⟩ : ∃ a b a' b', x.l = [a, b, a', b'] := by
          match x.l, hl with
          | [a, b, a', b'], _ => exact ⟨a, b, a', b', rfl⟩
        rw [hl] at hsz f12 ⊢
        simp only [List.getElem?_cons_zero, List.getElem?_cons_succ, Option.some.injEq, forall_eq', forall_eq, List.set_cons_zero, List.set_cons_succ, List.length_cons, List.length_nil, List.getD_cons_zero, List.getD_cons_succ, tn0, tn1, tn2, tn3, Int.le_refl, Nat.le_refl, Nat.reduceAdd, Int.reduceAdd, Int.reduceLE, Nat.reduceLeDiff, cn4, cn16]
        simp only [formL, Bool.and_true, Bool.and_eq_true] at f12
        simp only [Ex.szL] at hsz
        have hu : (unitL [a, b, a', b']).bind (ruleD x.op) = (unitX a).bind fun d => (unitX b).bind fun e => (unitX a').bind fun d' => (unitX b').bind fun e' => ruleD x.op [d, e, d', e'] := by
          simp only [unitL]
          cases unitX a <;> cases unitX b <;> cases unitX a' <;> cases unitX b' <;> rfl
        rw [hu]
        refine And.intro (by first | trivial | omega) (And.intro ⟨by omega, f12.1⟩ (And.intro (by first | trivial | omega) (And.intro ⟨by omega, f12.2.1⟩ (q2 (fun h => leafN ?_) (fun c d hc hd => ?_)))))
        · rcases h with h | h
          · rw [h]; rfl
          · rw [h]; cases unitX a <;> rfl
        · have hc4 := unitX_4 a f12.1 hc
          have hd4 := unitX_4 b f12.2.1 hd
          simp only [hc, hd, Option.getD_some, is4_row hc4, is4_row hd4, Option.bind_some]
          repeat' ((refine And.intro ?_ ?_) <;> intro h)
          all_goals first | (exfalso; omega) | skip
          refine And.intro trivial (And.intro ⟨by omega, f12.2.2.1⟩ (And.intro trivial (And.intro ⟨by omega, f12.2.2.2⟩ ?_)))
          cases ha' : unitX a' with
          | none => exact ⟨fun q => q = true, ⟨fun _ => rfl, fun h => by simp at h⟩, fun _ => leafN rfl, fun h => (by cases h)⟩
          | some e =>
            cases hb' : unitX b' with
            | none => exact ⟨fun q => q = true, ⟨fun h => by simp at h, fun _ => ⟨fun _ => rfl, fun h => by simp at h⟩⟩, fun _ => leafN rfl, fun h => (by cases h)⟩
            | some f =>
              have he4 := unitX_4 a' f12.2.2.1 ha'
              have hf4 := unitX_4 b' f12.2.2.2 hb'
              simp only [Option.getD_some, is4_row he4, is4_row hf4, Option.bind_some]
              rw [ruleD_if h11]
              by_cases p : c = d ∧ e = f
              · rw [if_pos p]
                exact ⟨fun q => q = false, ⟨fun h => by simp at h, fun _ => ⟨fun h => by simp at h, fun _ => ⟨fun h => absurd p.1 (ne_of4 hc4 hd4 h), fun _ => ⟨fun h => absurd p.2 (ne_of4 he4 hf4 h), fun _ => rfl⟩⟩⟩⟩, fun h => (by cases h), fun _ => ⟨⟨rfl, rfl, rfl, rfl⟩, rfl⟩⟩
              · rw [if_neg p]
                exact ⟨fun q => q = true, ⟨fun h => by simp at h, fun _ => ⟨fun h => by simp at h, fun _ => ⟨fun h => rfl, fun h => ⟨fun h' => rfl, fun h' => absurd ⟨eq_of4 hc4 hd4 h, eq_of4 he4 hf4 h'⟩ p⟩⟩⟩⟩, fun _ => leafN rfl, fun h => (by cases h)⟩
      · have hl := f9 h1 h2 h11
        obtain ⟨a, b, hl⟩ : ∃ a b, x.l = [a, b] := by
          match x.l, hl with
          | [a, b], _ => exact ⟨a, b, rfl⟩
        rw [hl] at hsz f12 ⊢
        simp only [List.getElem?_cons_zero, List.getElem?_cons_succ, Option.some.injEq, forall_eq', forall_eq, List.set_cons_zero, List.set_cons_succ, List.length_cons, List.length_nil, List.getD_cons_zero, List.getD_cons_succ, tn0, tn1, tn2, tn3, Int.le_refl, Nat.le_refl, Nat.reduceAdd, Int.reduceAdd, Int.reduceLE, Nat.reduceLeDiff, cn4, cn16]
        simp only [formL, Bool.and_true, Bool.and_eq_true] at f12
        simp only [Ex.szL] at hsz
        have hu : (unitL [a, b]).bind (ruleD x.op) = (unitX a).bind fun d => (unitX b).bind fun e => ruleD x.op [d, e] := by
          simp only [unitL]
          cases unitX a <;> cases unitX b <;> rfl
        rw [hu]
        refine And.intro (by first | trivial | omega) (And.intro ⟨by omega, f12.1⟩ (And.intro (by first | trivial | omega) (And.intro ⟨by omega, f12.2⟩ (q2 (fun h => leafN ?_) (fun c d hc hd => ?_)))))
        · rcases h with h | h
          · rw [h]; rfl
          · rw [h]; cases unitX a <;> rfl
        · have hc4 := unitX_4 a f12.1 hc
          have hd4 := unitX_4 b f12.2 hd
          simp only [hc, hd, Option.getD_some, is4_row hc4, is4_row hd4, Option.bind_some]
          repeat' ((refine And.intro ?_ ?_) <;> intro h)
          all_goals first
            | (exfalso; omega)
            | (rw [ruleD_mul (by omega)]; exact ⟨⟨rfl, rfl, rfl, rfl⟩, rfl⟩)
            | (rw [ruleD_div (by omega)]; exact ⟨⟨rfl, rfl, rfl, rfl⟩, rfl⟩)
            | (rw [ruleD_eq (by omega), if_neg (ne_of4 hc4 hd4 ‹_›)]; exact leafN rfl)
            | (rw [ruleD_eq (by omega), if_pos (eq_of4 hc4 hd4 ‹_›)]; exact ⟨⟨rfl, rfl, rfl, rfl⟩, rfl⟩)
end Go.Proofs.YtpllflefaccmkaaGreatDoor

/- Chapter 17: laws of units, without the program. -/
namespace Go.Proofs.YtpllflefaccmkaaGreatDoor
open Go
set_option linter.unusedVariables false
set_option linter.unusedSimpArgs false
/-- four small numbers -/
def R3 (d : List Int) : Prop := ∃ a b c e : Int, d = [a, b, c, e] ∧ (-3 ≤ a ∧ a ≤ 3) ∧ (-3 ≤ b ∧ b ≤ 3) ∧ (-3 ≤ c ∧ c ≤ 3) ∧ (-3 ≤ e ∧ e ≤ 3)
theorem cmb_3 {s : Int} {a b d : List Int} (h : cmb s a b = some d) : R3 d := by
  unfold cmb at h
  split at h
  · rename_i hc
    cases h
    simp only [Bool.and_eq_true] at hc
    exact ⟨_, _, _, _, rfl, (in3_iff _).1 hc.1.1.1, (in3_iff _).1 hc.1.1.2, (in3_iff _).1 hc.1.2, (in3_iff _).1 hc.2⟩
  · cases h
theorem attrD_3 (n : Int) : R3 (attrD n) := by
  unfold attrD
  split
  · exact ⟨_, _, _, _, rfl, by decide, by decide, by decide, by decide⟩
  split
  · exact ⟨_, _, _, _, rfl, by decide, by decide, by decide, by decide⟩
  split
  · exact ⟨_, _, _, _, rfl, by decide, by decide, by decide, by decide⟩
  split <;> exact ⟨_, _, _, _, rfl, by decide, by decide, by decide, by decide⟩
theorem writ_3 {a b c d : Int} (h : writU [a, b, c, d] = true) : R3 [a, b, c, d] := by
  rw [writU_def] at h
  simp only [Bool.and_eq_true, List.all_cons, in1, decide_eq_true_eq] at h
  exact ⟨a, b, c, d, rfl, by omega, by omega, by omega, by omega⟩
theorem ruleD_3 {op : Int} {ds : List (List Int)} {d : List Int} (h : ruleD op ds = some d) (h4 : ∀ i, i < (if op = 11 then 4 else 2) → R3 (ds.getD i [])) : R3 d := by
  unfold ruleD at h
  split at h
  · exact cmb_3 h
  · split at h
    · exact cmb_3 h
    · split at h
      · rename_i h11
        split at h
        · cases h
          exact h4 2 (by rw [if_pos h11]; omega)
        · cases h
      · rename_i h11
        split at h
        · cases h
          exact h4 0 (by rw [if_neg h11]; omega)
        · cases h
mutual
theorem unitX_3 : ∀ (x : Ex) {d : List Int}, formX x = true → unitX x = some d → R3 d
  | .mk op n d0 d1 d2 d3 l, d, hf, h => by
    have hff := (formX_iff _).1 hf
    rw [unitX] at h
    split at h
    · cases h; exact writ_3 hff.2.1
    · split at h
      · cases h; exact attrD_3 n
      · rename_i h1 h2
        obtain ⟨ds, hds, h⟩ := Option.bind_eq_some_iff.1 h
        refine ruleD_3 h fun i hi => ?_
        simp only [formX, Bool.and_eq_true] at hf
        have hl := unitL_3 l hf.2 hds
        have hlen := unitL_len hds
        have ha : l.length = arity op := by
          have := hf.1
          simp only [headOk, Bool.and_eq_true, decide_eq_true_eq] at this
          exact this.1.1.2
        unfold arity at ha
        rw [if_neg (by omega)] at ha
        have : i < ds.length := by rw [hlen, ha]; exact hi
        rw [List.getD_eq_getElem?_getD, List.getElem?_eq_getElem this]
        exact hl _ (List.getElem_mem this)
theorem unitL_3 : ∀ (l : List Ex) {ds : List (List Int)}, formL l = true → unitL l = some ds → ∀ d ∈ ds, R3 d
  | [], ds, _, h => by simp only [unitL] at h; cases h; simp
  | x :: r, ds, hf, h => by
    simp only [formL, Bool.and_eq_true] at hf
    obtain ⟨d, ds', h1, h2, rfl⟩ := unitL_cons.1 h
    intro e he
    rcases List.mem_cons.1 he with rfl | he
    · exact unitX_3 x hf.1 h1
    · exact unitL_3 r hf.2 h2 e he
end
theorem unitP_of {x : Ex} (hf : formX x = true) : unitP x = okP (unitX x) := by unfold unitP; rw [if_pos hf]
/-- a part of an expression replaced -/
theorem parts {x : Ex} {d : List Int} (fx : formX x = true) (hx : unitX x = some d) : (∀ y ∈ x.l, ∃ e, unitX y = some e ∧ formX y = true) := by
  intro y hy
  have hff := (formX_iff x).1 fx
  have hfy := formL_iff.1 hff.2.2 y hy
  rw [unitX_eq] at hx
  split at hx
  · rename_i h1
    have := hff.1.2.2.2.2.2.2.1 (.inl h1)
    rw [List.eq_nil_of_length_eq_zero this] at hy; cases hy
  · split at hx
    · rename_i h1
      have := hff.1.2.2.2.2.2.2.1 (.inr h1)
      rw [List.eq_nil_of_length_eq_zero this] at hy; cases hy
    · obtain ⟨ds, hds, _⟩ := Option.bind_eq_some_iff.1 hx
      have : ∀ (l : List Ex) (ds : List (List Int)), unitL l = some ds → ∀ y ∈ l, ∃ e, unitX y = some e := by
        intro l
        induction l with
        | nil => intro ds _ y hy; cases hy
        | cons z r ih =>
          intro ds h y hy
          obtain ⟨e, ds', h1, h2, rfl⟩ := unitL_cons.1 h
          rcases List.mem_cons.1 hy with rfl | hy
          · exact ⟨e, h1⟩
          · exact ih ds' h2 y hy
      obtain ⟨e, he⟩ := this _ _ hds y hy
      exact ⟨e, he, hfy⟩
end Go.Proofs.YtpllflefaccmkaaGreatDoor

/- Chapter 17: what the example calls again and again. -/
namespace Go.Proofs.YtpllflefaccmkaaGreatDoor
open Go
set_option linter.unusedVariables false
set_option linter.unusedSimpArgs false
set_option maxRecDepth 100000
theorem cond_word_a : callF EL F2 (vc EL F2 2000) 39 [.str true [97]] hp0 0 (fun r => ret EL (patch hp0 0 r) r.v (.bool true true)) = (true = true) := by kernel_rfl
theorem word_a : PureC EL 39 [.str true [97]] (.bool true true) := pure_of_call EL_ok (callL2 2000) (by rw [cond_word_a])
theorem cond_word_b : callF EL F2 (vc EL F2 2000) 39 [.str true [98]] hp0 0 (fun r => ret EL (patch hp0 0 r) r.v (.bool true true)) = (true = true) := by kernel_rfl
theorem word_b : PureC EL 39 [.str true [98]] (.bool true true) := pure_of_call EL_ok (callL2 2000) (by rw [cond_word_b])
theorem cond_word_c : callF EL F2 (vc EL F2 2000) 39 [.str true [99]] hp0 0 (fun r => ret EL (patch hp0 0 r) r.v (.bool true true)) = (true = true) := by kernel_rfl
theorem word_c : PureC EL 39 [.str true [99]] (.bool true true) := pure_of_call EL_ok (callL2 2000) (by rw [cond_word_c])
def wordsAt : List (List Nat) := [[116, 121, 112, 101], [111, 119, 110, 101, 114], [114, 97, 105, 108, 119, 97, 121], [115, 104, 105, 112, 112, 101, 114], [99, 108, 97, 115, 115], [119, 101, 105, 103, 104, 116], [107, 109], [109, 105, 110, 117, 116, 101, 115], [119, 111, 114, 107, 105, 110, 103], [99, 111, 100, 101], [119, 111, 114, 116, 104], [99, 111, 115, 116], [109, 111, 110, 116, 104], [98, 101, 103, 105, 110], [112, 97, 114, 116, 115], [112, 97, 114, 116]]
theorem cond_fieldsAt : callF EL F2 (vc EL F2 2000) 23 [.str true [116, 121, 112, 101, 32, 111, 119, 110, 101, 114, 32, 114, 97, 105, 108, 119, 97, 121, 32, 115, 104, 105, 112, 112, 101, 114, 32, 99, 108, 97, 115, 115, 32, 119, 101, 105, 103, 104, 116, 32, 107, 109, 32, 109, 105, 110, 117, 116, 101, 115, 32, 119, 111, 114, 107, 105, 110, 103, 32, 99, 111, 100, 101, 32, 119, 111, 114, 116, 104, 32, 99, 111, 115, 116, 32, 109, 111, 110, 116, 104, 32, 98, 101, 103, 105, 110, 32, 112, 97, 114, 116, 115, 32, 112, 97, 114, 116]] hp0 0 (fun r => ret EL (patch hp0 0 r) r.v (.psl .strs wordsAt false)) = (wordsAt = wordsAt) := by kernel_rfl
theorem fieldsAt : PureC EL 23 [.str true [116, 121, 112, 101, 32, 111, 119, 110, 101, 114, 32, 114, 97, 105, 108, 119, 97, 121, 32, 115, 104, 105, 112, 112, 101, 114, 32, 99, 108, 97, 115, 115, 32, 119, 101, 105, 103, 104, 116, 32, 107, 109, 32, 109, 105, 110, 117, 116, 101, 115, 32, 119, 111, 114, 107, 105, 110, 103, 32, 99, 111, 100, 101, 32, 119, 111, 114, 116, 104, 32, 99, 111, 115, 116, 32, 109, 111, 110, 116, 104, 32, 98, 101, 103, 105, 110, 32, 112, 97, 114, 116, 115, 32, 112, 97, 114, 116]] (.psl .strs wordsAt false) := pure_of_call EL_ok (callL2 2000) (by rw [cond_fieldsAt])
def wordsKi : List (List Nat) := [[104, 105, 114, 101], [100, 101, 109, 117, 114, 114, 97, 103, 101], [102, 114, 101, 105, 103, 104, 116], [114, 101, 112, 97, 105, 114], [108, 111, 115, 115], [99, 108, 101, 97, 110, 105, 110, 103]]
theorem cond_fieldsKi : callF EL F2 (vc EL F2 2000) 23 [.str true [104, 105, 114, 101, 32, 100, 101, 109, 117, 114, 114, 97, 103, 101, 32, 102, 114, 101, 105, 103, 104, 116, 32, 114, 101, 112, 97, 105, 114, 32, 108, 111, 115, 115, 32, 99, 108, 101, 97, 110, 105, 110, 103]] hp0 0 (fun r => ret EL (patch hp0 0 r) r.v (.psl .strs wordsKi false)) = (wordsKi = wordsKi) := by kernel_rfl
theorem fieldsKi : PureC EL 23 [.str true [104, 105, 114, 101, 32, 100, 101, 109, 117, 114, 114, 97, 103, 101, 32, 102, 114, 101, 105, 103, 104, 116, 32, 114, 101, 112, 97, 105, 114, 32, 108, 111, 115, 115, 32, 99, 108, 101, 97, 110, 105, 110, 103]] (.psl .strs wordsKi false) := pure_of_call EL_ok (callL2 2000) (by rw [cond_fieldsKi])
def wordsUn : List (List Nat) := [[109, 111, 110, 101, 121], [109, 105, 110, 117, 116, 101], [107, 109], [107, 103]]
theorem cond_fieldsUn : callF EL F2 (vc EL F2 2000) 23 [.str true [109, 111, 110, 101, 121, 32, 109, 105, 110, 117, 116, 101, 32, 107, 109, 32, 107, 103]] hp0 0 (fun r => ret EL (patch hp0 0 r) r.v (.psl .strs wordsUn false)) = (wordsUn = wordsUn) := by kernel_rfl
theorem fieldsUn : PureC EL 23 [.str true [109, 111, 110, 101, 121, 32, 109, 105, 110, 117, 116, 101, 32, 107, 109, 32, 107, 103]] (.psl .strs wordsUn false) := pure_of_call EL_ok (callL2 2000) (by rw [cond_fieldsUn])
def wordsCa : List (List Nat) := [[109, 105, 110], [109, 97, 120], [100, 111, 119, 110], [117, 112], [104, 97, 108, 102]]
theorem cond_fieldsCa : callF EL F2 (vc EL F2 2000) 23 [.str true [109, 105, 110, 32, 109, 97, 120, 32, 100, 111, 119, 110, 32, 117, 112, 32, 104, 97, 108, 102]] hp0 0 (fun r => ret EL (patch hp0 0 r) r.v (.psl .strs wordsCa false)) = (wordsCa = wordsCa) := by kernel_rfl
theorem fieldsCa : PureC EL 23 [.str true [109, 105, 110, 32, 109, 97, 120, 32, 100, 111, 119, 110, 32, 117, 112, 32, 104, 97, 108, 102]] (.psl .strs wordsCa false) := pure_of_call EL_ok (callL2 2000) (by rw [cond_fieldsCa])
def wordPre : List (SV thy) → Option (SV thy)
  | [.str true s] => (match eqL s [97] || (eqL s [98] || eqL s [99]) with | true => some (.bool true true) | false => none)
  | _ => none
def fieldsPre : List (SV thy) → Option (SV thy)
  | [.str true s] => (match eqL s [116, 121, 112, 101, 32, 111, 119, 110, 101, 114, 32, 114, 97, 105, 108, 119, 97, 121, 32, 115, 104, 105, 112, 112, 101, 114, 32, 99, 108, 97, 115, 115, 32, 119, 101, 105, 103, 104, 116, 32, 107, 109, 32, 109, 105, 110, 117, 116, 101, 115, 32, 119, 111, 114, 107, 105, 110, 103, 32, 99, 111, 100, 101, 32, 119, 111, 114, 116, 104, 32, 99, 111, 115, 116, 32, 109, 111, 110, 116, 104, 32, 98, 101, 103, 105, 110, 32, 112, 97, 114, 116, 115, 32, 112, 97, 114, 116] with | true => some (.psl .strs wordsAt false) | false => (match eqL s [104, 105, 114, 101, 32, 100, 101, 109, 117, 114, 114, 97, 103, 101, 32, 102, 114, 101, 105, 103, 104, 116, 32, 114, 101, 112, 97, 105, 114, 32, 108, 111, 115, 115, 32, 99, 108, 101, 97, 110, 105, 110, 103] with | true => some (.psl .strs wordsKi false) | false => (match eqL s [109, 111, 110, 101, 121, 32, 109, 105, 110, 117, 116, 101, 32, 107, 109, 32, 107, 103] with | true => some (.psl .strs wordsUn false) | false => (match eqL s [109, 105, 110, 32, 109, 97, 120, 32, 100, 111, 119, 110, 32, 117, 112, 32, 104, 97, 108, 102] with | true => some (.psl .strs wordsCa false) | false => none))))
  | _ => none
noncomputable def F3 : Fns thy := addS (addS F2 39 (sumO wordPre)) 23 (sumO fieldsPre)
theorem F3_okL : FnsOk EL F3 := by
  refine addS_ok (addS_ok F2_okL (sumO_ok EL_ok (good_of rfl) fun args v h => ?_)) (sumO_ok EL_ok (good_of rfl) fun args v h => ?_)
  · unfold wordPre at h
    split at h
    · split at h
      · rename_i e
        cases h
        rw [Bool.or_eq_true] at e
        rw [Bool.or_eq_true] at e
        rcases e with e | e | e
        · rw [eqL_of e]; exact word_a
        · rw [eqL_of e]; exact word_b
        · rw [eqL_of e]; exact word_c
      · cases h
    · cases h
  · unfold fieldsPre at h
    split at h
    · split at h
      · rename_i e; cases h; rw [eqL_of e]; exact fieldsAt
      · split at h
        · rename_i e; cases h; rw [eqL_of e]; exact fieldsKi
        · split at h
          · rename_i e; cases h; rw [eqL_of e]; exact fieldsUn
          · split at h
            · rename_i e; cases h; rw [eqL_of e]; exact fieldsCa
            · cases h
    · cases h
theorem callL3 (n : Nat) : CallOk EL (callF EL F3 (vc EL F3 n)) := callF_ok EL_ok F3_okL fun f N c => (vc_ok EL_ok F3_okL n f N c).1
end Go.Proofs.YtpllflefaccmkaaGreatDoor

/- A symbolic executor, part ZI: a call whose result stays as it is from then on (slices in it become lists). -/
namespace Go.Proofs.YtpllflefaccmkaaGreatDoor
open Go.RowKit
set_option linter.unusedVariables false
set_option linter.unusedSimpArgs false

section
variable {Y : Thy} {E : Eng Y}
theorem frz_mem (hE : EngOk E) {H : Hp Y} {v v' : SV Y} {bs : List Nat} (o : FrzOk E H v v' bs) {B : Nat} {σ : Pl} {g : GH} {w : World} {u : Value} (hI : Inv E B σ H g w) (hd : Den E σ g v u) :
    g.le (frzG E H σ bs g w) ∧ Inv E B σ (fun b => match memB b bs with | true => frzB (H b) | false => H b) (frzG E H σ bs g w) w ∧ Den E σ (frzG E H σ bs g w) v' u := by
  have hle := frzG_le (bs := bs) hI
  have src : ∀ b y, (match memB b bs with | true => frzB (H b) | false => H b) = some y → ∃ y0, H b = some y0 ∧ (∀ σ g w r z, BlkOk E σ g w r z y0 → BlkOk E σ g w r z y) ∧ y0.fzc E ≤ y.fzc E ∧ (b ∈ bs → (y0.cells E).length ≤ y.fzc E) := by
    intro b y hy
    cases hm : memB b bs with
    | true =>
      rw [hm] at hy
      have hbm := memB_iff.1 hm
      obtain ⟨y0, h1, h2⟩ := o.blk b hbm
      have hy : frzB (H b) = some y := hy
      rw [h1] at hy
      obtain ⟨y', k1, k2, k3, k4, k5⟩ := frzB_spec hE h2
      rw [k1] at hy; cases hy
      exact ⟨y0, h1, k5, k3, fun _ => k4⟩
    | false =>
      rw [hm] at hy
      exact ⟨y, hy, fun _ _ _ _ _ h => h, Nat.le_refl _, fun hb => by rw [memB_iff.2 hb] at hm; cases hm⟩
  have ne : ∀ b, (match memB b bs with | true => frzB (H b) | false => H b) ≠ none → H b ≠ none := by
    intro b hb
    obtain ⟨y, hy⟩ := Option.ne_none_iff_exists'.1 hb
    obtain ⟨y0, h1, _⟩ := src b y hy
    rw [h1]; simp
  have hI0 := frzG_inv (bs := bs) (B' := 0) hI
  refine ⟨hle, ⟨hI0.gc, hI0.gm, fun b y hy => ?_, fun b b' r z z' h1 h2 => hI.inj b b' r z z' (ne b h1) (ne b' h2), hI.base, fun b y r z q v hy hs hv => ?_, fun b y r z hy hs => ?_, hI0.glob⟩, (o.den H σ g w B u _ (fun _ _ => rfl) hI hle frzG_kept hd).mono (fun b p h => by cases h) (.refl _)⟩
  · obtain ⟨y0, h1, h2, _⟩ := src b y hy
    obtain ⟨r, z, h3, h4⟩ := hI.blk b y0 h1
    exact ⟨r, z, h3, h2 _ _ _ _ _ (h4.mono (.refl _) hle rfl)⟩
  · obtain ⟨y0, h1, _, h3, h4⟩ := src b y hy
    rcases frzG_cell hv with ⟨_, b', hb', z', x', k1, k2, k3⟩ | k
    · obtain rfl := hI.inj b b' r z z' (by rw [h1]; simp) (by rw [k2]; simp) hs k1
      rw [h1] at k2; cases k2
      exact Nat.lt_of_lt_of_le k3 (h4 hb')
    · exact Nat.lt_of_lt_of_le (hI.fz b y0 r z q v h1 hs k) h3
  · obtain ⟨y0, h1, _⟩ := src b y hy
    exact hI.fm b y0 r z h1 hs
/-- a call, its result frozen -/
noncomputable def frzC (E : Eng Y) (gth : List (SV Y) → Option Y.Th) (n : Nat) (call : Nat → List (SV Y) → Hp Y → Nat → (Res Y → Prop) → Prop) (f : Nat) : Sum Y := fun args h i k =>
  call f args h i fun r =>
    (match r.rd with
    | none => frzK E gth (patch h i r) n r.v fun v' bs => forceNL (ltFilter i bs ++ r.mods) fun m => k ⟨v', r.n, m, fun b => (match memB b bs with | true => frzB (patch h i r b) | false => patch h i r b), none⟩
    | some _ => False)
theorem frzC_ok (hE : EngOk E) {gth : List (SV Y) → Option Y.Th} {n : Nat} {call : Nat → List (SV Y) → Hp Y → Nat → (Res Y → Prop) → Prop} (hcall : CallOk E call) {f : Nat} (hg : FnGood E.P f) : SumOk E f (frzC E gth n call f) := by
  refine ⟨hg, fun args h i k hD hk => ?_⟩
  obtain ⟨r, hk, hR, htri⟩ := hcall f args h i _ hD hk
  split at hk
  case h_2 => exact hk.elim
  rename_i hrd
  obtain ⟨v', bs, hk, o⟩ := frzK_ok hE n r.v _ hk
  rw [forceNL_eq] at hk
  have hDp := hD.patch hR
  have hin : ∀ b ∈ bs, patch h i r b ≠ none := fun b hb => by
    obtain ⟨x, hx, _⟩ := o.blk b hb
    rw [hx]; simp
  have old : ∀ b ∈ bs, b < i → h b ≠ none := by
    intro b hb hbi
    have h1 := hin b hb
    rw [patch_eq] at h1
    split at h1
    · rename_i c
      rcases c with c | c
      · exact hR b c
      · omega
    · exact h1
  refine ⟨_, hk, fun b hb => ?_, ?_⟩
  · rcases List.mem_append.1 hb with hb | hb
    · obtain ⟨h1, h2⟩ := of_ltFilter hb
      exact old b h1 h2
    · exact hR b hb
  intro B σ g w vals hh hhrd hI hB hfree hd
  obtain rfl : hh = h := funext fun b => hhrd b trivial
  refine (htri B σ g w vals hh (fun _ _ => rfl) hI hB hfree hd).mono ?_
  rintro en w' ⟨u, he, σ', g', hS, hI', hv⟩
  obtain ⟨k1, k2, k3⟩ := frz_mem hE o hI' hv
  refine ⟨u, he, σ', _, ⟨hS.sig, hS.snew, hS.gle.trans k1, fun q p v hq => ?_, fun q es hq => hS.gmnew q es hq, fun q hq hx => hS.heap q hq fun b hb => hx b (List.mem_append_right _ hb), hS.size, hS.os, hS.tape, hS.output, fun b q z h1 h2 => (hS.blk b q z h1 h2).imp (fun x => x) fun ⟨b', h3, h4⟩ => ⟨b', List.mem_append_right _ h3, h4⟩⟩, ?_, k3⟩
  · rcases frzG_cell hq with ⟨_, b, hb, z, x, h1, _⟩ | h1
    · cases hσ : σ b with
      | some p' =>
        have := hS.sig b p' hσ
        rw [h1] at this; cases this
        by_cases hbi : b < i
        · exact .inr (.inr ⟨b, List.mem_append_left _ (mem_ltFilter hb hbi), z, hσ⟩)
        · have := hDp b (hin b hb)
          rw [hfree b (by omega) this] at hσ; cases hσ
      | none =>
        rcases hS.blk b q z hσ h1 with h2 | ⟨b', h2, h3⟩
        · exact .inr (.inl h2)
        · exact .inr (.inr ⟨b', List.mem_append_right _ h2, h3⟩)
    · rcases hS.gcnew q p v h1 with h2 | h2 | ⟨b, h2, h3⟩
      · exact .inl h2
      · exact .inr (.inl h2)
      · exact .inr (.inr ⟨b, List.mem_append_right _ h2, h3⟩)
  · refine inv_sub k2 fun b x hx => ?_
    rw [patch_eq] at hx
    split at hx
    · exact hx
    · rename_i hno
      have hnb : b ∉ bs := by
        intro hb
        by_cases hbi : b < i
        · exact hno (.inl (List.mem_append_left _ (mem_ltFilter hb hbi)))
        · exact hno (.inr ⟨by omega, hDp b (hin b hb)⟩)
      have hm : memB b bs = false := by rw [← Bool.not_eq_true, memB_iff]; exact hnb
      show (match memB b bs with | true => frzB (patch hh i r b) | false => patch hh i r b) = some x
      rw [hm]
      show patch hh i r b = some x
      rw [patch_eq, if_neg]
      · exact hx
      · rintro (c | c)
        · exact hno (.inl (List.mem_append_right _ c))
        · exact hno (.inr c)
end
end Go.Proofs.YtpllflefaccmkaaGreatDoor

/- Chapter 17: expressions, once read, stay as they are. -/
namespace Go.Proofs.YtpllflefaccmkaaGreatDoor
open Go
set_option linter.unusedVariables false
set_option linter.unusedSimpArgs false
set_option maxRecDepth 100000
noncomputable def F4 : Fns thy := addS F3 66 (frzC EL (fun _ => some Th.exprs) 20 (callF EL F3 (vc EL F3 2000)) 66)
theorem F4_okL : FnsOk EL F4 := addS_ok F3_okL (frzC_ok EL_ok (callL3 2000) (good_of rfl))
noncomputable def F5 : Fns thy := addS F3 66 (frzC EL (fun _ => some Th.exprs) 20 (callF EL F3 (vc EL F4 2000)) 66)
/-- the function's own text, inner calls by the summary -/
theorem callL34 (n : Nat) : CallOk EL (callF EL F3 (vc EL F4 n)) := callF_ok EL_ok F3_okL fun f N c => (vc_ok EL_ok F4_okL n f N c).1
theorem F5_okL : FnsOk EL F5 := addS_ok F3_okL (frzC_ok EL_ok (callL34 2000) (good_of rfl))
theorem callL5 (n : Nat) : CallOk EL (callF EL F5 (vc EL F5 n)) := callF_ok EL_ok F5_okL fun f N c => (vc_ok EL_ok F5_okL n f N c).1
end Go.Proofs.YtpllflefaccmkaaGreatDoor

/- Chapter 17: the chapter's examples: everything is computed. -/
namespace Go.Proofs.YtpllflefaccmkaaGreatDoor
open Go
set_option linter.unusedVariables false
set_option linter.unusedSimpArgs false
set_option maxRecDepth 100000
theorem cond_sane : callF EL F5 (vc EL F5 4000) 5 [] hp0 0 (fun r => ret EL (patch hp0 0 r) r.v (.bool false true)) = (true = true) := by kernel_rfl
theorem sane_pure : PureC E 5 [] (.bool false true) := by
  refine PureC.like like2 like1 (fun _ _ h => h) (pure_of_call EL_ok (callL5 4000) ?_)
  rw [cond_sane]
end Go.Proofs.YtpllflefaccmkaaGreatDoor

/- Chapter 17: the laws about expressions. -/
namespace Go.Proofs.YtpllflefaccmkaaGreatDoor
open Go
set_option linter.unusedVariables false
set_option linter.unusedSimpArgs false
set_option maxRecDepth 100000
noncomputable def Ssane : Sum thy := sumP (DcL.nil : DcL E Unit) (fun _ => True) fun _ => .bool false true
theorem Ssane_ok : SumOk E 5 Ssane := sumP_ok E_ok (good_of (f := 5) rfl) fun _ _ => sane_pure
noncomputable def SsizeB : Sum thy := sumP dSize (fun x => 1 ≤ x.2.1 ∧ x.2.1 ≤ 1000) fun x => .int false .i64 (min (x.1.sz : Int) x.2.1)
theorem SsizeB_ok : SumOk E 38 SsizeB := sumP_ok E_ok (good_of (f := 38) rfl) fun x h => size_aux _ _ _ (Nat.le_refl _) h.1 h.2
noncomputable def Fsmall : Fns thy := addS F0 38 SsizeB
theorem Fsmall_ok : FnsOk E Fsmall := addS_ok F0_ok SsizeB_ok
--@cond small | 15 | Fsmall | 400 | (x : Ex) | [exA x] | (b : Bool) | .bool false b
theorem cond_small (x : Ex) (b : Bool) : callF E Fsmall (vc E Fsmall 400) 15 [exA x] hp0 0 (fun r => ret E (patch hp0 0 r) r.v (.bool false b)) = (
  ((1 : Int) ≤ (61 : Int) ∧ (61 : Int) ≤ (1000 : Int)) ∧ (decide (min (↑(Ex.sz (Ex.mk (Ex.op x) (Ex.n x) (Ex.d0 x) (Ex.d1 x) (Ex.d2 x) (Ex.d3 x) (Ex.l x))) : Int) (61 : Int) ≤ (60 :
  Int)) = true → true = b) ∧ (decide (min (↑(Ex.sz (Ex.mk (Ex.op x) (Ex.n x) (Ex.d0 x) (Ex.d1 x) (Ex.d2 x) (Ex.d3 x) (Ex.l x))) : Int) (61 : Int) ≤ (60 : Int)) = false → false = b)
  ) := by kernel_rfl
--@end
theorem small_pure (x : Ex) : PureC E 15 [exA x] (.bool false (decide (x.sz ≤ 60))) := by
  refine pure_of_call E_ok (callOk_of E_ok Fsmall_ok 400) ?_
  rw [cond_small]
  simp only [bif_true, bif_false, bif_nt, bif_tf, bif_ft, beq_iff_eq, bne_iff_ne, beq_eq_false_iff_ne, bne_eq_false_iff_eq, decide_eq_true_eq, decide_eq_false_iff_not, Bool.or_eq_true, Bool.or_eq_false_iff, Bool.not_eq_true', Bool.not_eq_false', Bool.and_eq_true, Bool.and_true, Bool.true_and, Bool.and_eq_false_iff, beq_self_eq_true, mm2_max, mm2_min, ne_eq, and_true, true_and, Bool.true_eq_false, Bool.false_eq_true, false_or, or_false, true_implies, imp_self, Int.ofNat_eq_natCast, not_true_eq_false, not_false_eq_true, Decidable.not_not, List.getElem?_cons_zero, List.getElem?_cons_succ, Option.some.injEq, forall_eq', forall_eq, List.set_cons_zero, List.set_cons_succ, List.length_cons, List.length_nil, List.getD_cons_zero, List.getD_cons_succ, tn0, tn1, tn2, tn3, Int.le_refl, Nat.le_refl, Nat.reduceAdd, Int.reduceAdd, Int.reduceLE, Nat.reduceLeDiff, cn4, cn16, Ex.eta]
  refine ⟨fun h => ?_, fun h => ?_⟩
  · rw [decide_eq_true (by omega)]
  · rw [decide_eq_false (by omega)]
noncomputable def Ssmall : Sum thy := sumP dExp (fun _ => True) fun x => .bool false (decide (x.1.sz ≤ 60))
theorem Ssmall_ok : SumOk E 15 Ssmall := sumP_ok E_ok (good_of (f := 15) rfl) fun x _ => small_pure _
noncomputable def SForm16 : Sum thy := sumP dExp (fun x => x.1.sz < 1000000000) fun x => .bool false (formX x.1)
theorem SForm16_ok : SumOk E 50 SForm16 := sumP_ok E_ok (good_of (f := 50) rfl) fun x h => form16_aux 1000000000 (by omega) _ h
noncomputable def Sunit17B : Sum thy := sumPY dExp (fun x => x.1.sz < 1000000000 ∧ formX x.1 = true) (fun x => unitX x.1) optV
theorem Sunit17B_ok : SumOk E 51 Sunit17B := sumPY_ok E_ok (good_of (f := 51) rfl) fun x h => unit17_aux _ _ h.1 h.2
noncomputable def FUnit17 : Fns thy := addS (addS F0 50 SForm16) 51 Sunit17B
theorem FUnit17_ok : FnsOk E FUnit17 := addS_ok (addS_ok F0_ok SForm16_ok) Sunit17B_ok
--@cond Unit17 | 20 | FUnit17 | 400 | (x : Ex) | [exA x] | (p : List Int × Int) | errV p
theorem cond_Unit17 (x : Ex) (p : List Int × Int) : callF E FUnit17 (vc E FUnit17 400) 20 [exA x] hp0 0 (fun r => ret E (patch hp0 0 r) r.v (errV p)) = (
  Ex.sz (Ex.mk (Ex.op x) (Ex.n x) (Ex.d0 x) (Ex.d1 x) (Ex.d2 x) (Ex.d3 x) (Ex.l x)) + (1 : Nat) ≤ (1000000000 : Nat) ∧ ((!formX (Ex.mk (Ex.op x) (Ex.n x) (Ex.d0 x) (Ex.d1 x) (Ex.d2
  x) (Ex.d3 x) (Ex.l x))) = true → (4 : Nat) = (4 : Nat) ∧ (4 : Nat) = (4 : Nat) ∧ ((0 : Int) = List.getD (Prod.fst p) (0 : Nat) (0 : Int) ∧ (0 : Int) = List.getD (Prod.fst p) (1 :
  Nat) (0 : Int) ∧ (0 : Int) = List.getD (Prod.fst p) (2 : Nat) (0 : Int) ∧ (0 : Int) = List.getD (Prod.fst p) (3 : Nat) (0 : Int) ∧ True) ∧ (1 : Int) = Prod.snd p ∧ True) ∧ ((!formX
  (Ex.mk (Ex.op x) (Ex.n x) (Ex.d0 x) (Ex.d1 x) (Ex.d2 x) (Ex.d3 x) (Ex.l x))) = false → (Ex.sz (Ex.mk (Ex.op x) (Ex.n x) (Ex.d0 x) (Ex.d1 x) (Ex.d2 x) (Ex.d3 x) (Ex.l x)) + (1 :
  Nat) ≤ (1000000000 : Nat) ∧ formX (Ex.mk (Ex.op x) (Ex.n x) (Ex.d0 x) (Ex.d1 x) (Ex.d2 x) (Ex.d3 x) (Ex.l x)) = true) ∧ ∀ (y : Option (List Int)), y = unitX (Ex.mk (Ex.op x) (Ex.n
  x) (Ex.d0 x) (Ex.d1 x) (Ex.d2 x) (Ex.d3 x) (Ex.l x)) → (4 : Nat) = (4 : Nat) ∧ ((!Option.isSome y) = true → (4 : Nat) = (4 : Nat) ∧ (4 : Nat) = (4 : Nat) ∧ ((0 : Int) = List.getD
  (Prod.fst p) (0 : Nat) (0 : Int) ∧ (0 : Int) = List.getD (Prod.fst p) (1 : Nat) (0 : Int) ∧ (0 : Int) = List.getD (Prod.fst p) (2 : Nat) (0 : Int) ∧ (0 : Int) = List.getD (Prod.fst
  p) (3 : Nat) (0 : Int) ∧ True) ∧ (170 : Int) = Prod.snd p ∧ True) ∧ ((!Option.isSome y) = false → (4 : Nat) = (4 : Nat) ∧ (4 : Nat) = (4 : Nat) ∧ (4 : Nat) = (4 : Nat) ∧ (List.getD
  (Option.getD y [(0 : Int), (0 : Int), (0 : Int), (0 : Int)]) (0 : Nat) (0 : Int) = List.getD (Prod.fst p) (0 : Nat) (0 : Int) ∧ List.getD (Option.getD y [(0 : Int), (0 : Int), (0 :
  Int), (0 : Int)]) (1 : Nat) (0 : Int) = List.getD (Prod.fst p) (1 : Nat) (0 : Int) ∧ List.getD (Option.getD y [(0 : Int), (0 : Int), (0 : Int), (0 : Int)]) (2 : Nat) (0 : Int) =
  List.getD (Prod.fst p) (2 : Nat) (0 : Int) ∧ List.getD (Option.getD y [(0 : Int), (0 : Int), (0 : Int), (0 : Int)]) (3 : Nat) (0 : Int) = List.getD (Prod.fst p) (3 : Nat) (0 : Int)
  ∧ True) ∧ (0 : Int) = Prod.snd p ∧ True))
  ) := by kernel_rfl
--@end
theorem Unit17_pure (x : Ex) (hs : x.sz < 1000000000) : PureC E 20 [exA x] (errV (unitP x)) := by
  refine pure_of_call E_ok (callOk_of E_ok FUnit17_ok 400) ?_
  rw [cond_Unit17]
  simp only [bif_true, bif_false, bif_nt, bif_tf, bif_ft, beq_iff_eq, bne_iff_ne, beq_eq_false_iff_ne, bne_eq_false_iff_eq, decide_eq_true_eq, decide_eq_false_iff_not, Bool.or_eq_true, Bool.or_eq_false_iff, Bool.not_eq_true', Bool.not_eq_false', Bool.and_eq_true, Bool.and_true, Bool.true_and, Bool.and_eq_false_iff, beq_self_eq_true, mm2_max, mm2_min, ne_eq, and_true, true_and, Bool.true_eq_false, Bool.false_eq_true, false_or, or_false, true_implies, imp_self, Int.ofNat_eq_natCast, not_true_eq_false, not_false_eq_true, Decidable.not_not, List.getElem?_cons_zero, List.getElem?_cons_succ, Option.some.injEq, forall_eq', forall_eq, List.set_cons_zero, List.set_cons_succ, List.length_cons, List.length_nil, List.getD_cons_zero, List.getD_cons_succ, tn0, tn1, tn2, tn3, Int.le_refl, Nat.le_refl, Nat.reduceAdd, Int.reduceAdd, Int.reduceLE, Nat.reduceLeDiff, cn4, cn16, Ex.eta]
  unfold unitP
  refine ⟨by omega, fun h => ?_, fun h => ⟨⟨by omega, h⟩, fun ho => ?_, fun ho => ?_⟩⟩
  · rw [h]; exact errP_0 rfl
  · rw [if_pos h, Option.isNone_iff_eq_none.1 (Option.isSome_eq_false_iff.1 ho)]
    exact errP_0 rfl
  · obtain ⟨d, hd⟩ := Option.isSome_iff_exists.1 ho
    rw [if_pos h, hd]
    exact errP_of rfl
--@end
end Go.Proofs.YtpllflefaccmkaaGreatDoor

/- Chapter 17: few, Check: the first clause whose price is no amount of money. -/
namespace Go.Proofs.YtpllflefaccmkaaGreatDoor
open Go
set_option linter.unusedVariables false
set_option linter.unusedSimpArgs false
set_option maxRecDepth 100000
noncomputable def dTar : DcL E (Tar × Unit) := .cons (dR .tariffs) .nil
def cOk (c : Cls) : Bool := decide (c.name.length ≤ 100) && decide (c.when_.length ≤ 12) && decide (c.pay.sz ≤ 60)
def fewF (t : Tar) : Bool := decide (t.clauses.length ≤ 66) && decide (t.name.length ≤ 100) && t.clauses.all cOk
structure KX where
  k : Nat
  r : Nat
noncomputable def Afew : Fr thy → Hp thy → Nat → Ann thy := fun T h i => { X := KX, fr := fun x => [(1, T 1), (3, .int false .i64 x.k)], bl := fun x => blkP h (T 1), src := fun _ => [], md := [], ih := i, M := i + 40, meas := fun x => x.r }
noncomputable def Ffew : Fns thy := addL (addS F0 15 Ssmall) 6 4 Afew E
theorem Ffew_ok : FnsOk E Ffew := addL_ok E_ok (addS_ok F0_ok Ssmall_ok) _ _ _
--@cond few | 6 | Ffew | 400 | (t : Tar) | [tarA t] | (b : Bool) | .bool false b
theorem cond_few (t : Tar) (b : Bool) : callF E Ffew (vc E Ffew 400) 6 [tarA t] hp0 0 (fun r => ret E (patch hp0 0 r) r.v (.bool false b)) = (
  ∃ (Q : Bool → Prop), ((decide ((↑(List.length (Tar.clauses t)) : Int) > (66 : Int)) = true → Q true) ∧ (decide ((↑(List.length (Tar.clauses t)) : Int) > (66 : Int)) = false →
  (decide ((↑(List.length (Tar.name t)) : Int) > (100 : Int)) = true → Q true) ∧ (decide ((↑(List.length (Tar.name t)) : Int) > (100 : Int)) = false → Q false))) ∧ (Q true → false =
  b) ∧ (Q false → ∃ (R : KX → Prop), (∃ (x : KX), R x ∧ true = true ∧ ((0 : Nat) = (0 : Nat) ∧ (0 : Int) = (↑(KX.k x) : Int) ∧ True) ∧ (Tar.name t = Tar.name t ∧ Tar.for_ t =
  Tar.for_ t ∧ (Tar.clauses t = Tar.clauses t ∧ (false = true → false = true)) ∧ True) ∧ True) ∧ ∀ (x : KX), R x → (decide ((↑(KX.k x) : Int) < (↑(List.length (Tar.clauses t)) :
  Int)) = true → (0 : Int) ≤ (↑(KX.k x) : Int) ∧ (↑(KX.k x) : Int) + (1 : Int) ≤ (↑(List.length (Tar.clauses t)) : Int) ∧ ∀ (x_1 : Cls), (Tar.clauses t)[Int.toNat (↑(KX.k x) : Int)]?
  = some x_1 → (decide ((↑(List.length (Cls.name x_1)) : Int) > (100 : Int)) = true → false = b) ∧ (decide ((↑(List.length (Cls.name x_1)) : Int) > (100 : Int)) = false → (decide
  ((↑(List.length (Cls.when_ x_1)) : Int) > (12 : Int)) = true → false = b) ∧ (decide ((↑(List.length (Cls.when_ x_1)) : Int) > (12 : Int)) = false → True ∧ ((!decide (Ex.sz (Ex.mk
  (Ex.op (Cls.pay x_1)) (Ex.n (Cls.pay x_1)) (Ex.d0 (Cls.pay x_1)) (Ex.d1 (Cls.pay x_1)) (Ex.d2 (Cls.pay x_1)) (Ex.d3 (Cls.pay x_1)) (Ex.l (Cls.pay x_1))) ≤ (60 : Nat))) = true →
  false = b) ∧ ((!decide (Ex.sz (Ex.mk (Ex.op (Cls.pay x_1)) (Ex.n (Cls.pay x_1)) (Ex.d0 (Cls.pay x_1)) (Ex.d1 (Cls.pay x_1)) (Ex.d2 (Cls.pay x_1)) (Ex.d3 (Cls.pay x_1)) (Ex.l
  (Cls.pay x_1))) ≤ (60 : Nat))) = false → ∃ (x_2 : KX), R x_2 ∧ x_2.2 + (1 : Nat) ≤ x.2 ∧ true = true ∧ ((0 : Nat) = (0 : Nat) ∧ wr IntKind.i64 ((↑(KX.k x) : Int) + (1 : Int)) =
  (↑(KX.k x_2) : Int) ∧ True) ∧ (Tar.name t = Tar.name t ∧ Tar.for_ t = Tar.for_ t ∧ (Tar.clauses t = Tar.clauses t ∧ (false = true → false = true)) ∧ True) ∧ True)))) ∧ (decide
  ((↑(KX.k x) : Int) < (↑(List.length (Tar.clauses t)) : Int)) = false → true = b))
  ) := by kernel_rfl
--@end
theorem all_dropC {l : List Cls} {k : Nat} {w : Cls} (h : l[k]? = some w) : (l.drop k).all cOk = (cOk w && (l.drop (k + 1)).all cOk) := by rw [drop_get h, List.all_cons]
theorem few_pure (t : Tar) : PureC E 6 [tarA t] (.bool false (fewF t)) := by
  refine pure_of_call E_ok (callOk_of E_ok Ffew_ok 400) ?_
  rw [cond_few]
  simp only [bif_true, bif_false, bif_nt, bif_tf, bif_ft, beq_iff_eq, bne_iff_ne, beq_eq_false_iff_ne, bne_eq_false_iff_eq, decide_eq_true_eq, decide_eq_false_iff_not, Bool.or_eq_true, Bool.or_eq_false_iff, Bool.not_eq_true', Bool.not_eq_false', Bool.and_eq_true, Bool.and_true, Bool.true_and, Bool.and_eq_false_iff, beq_self_eq_true, mm2_max, mm2_min, ne_eq, and_true, true_and, Bool.true_eq_false, Bool.false_eq_true, false_or, or_false, true_implies, imp_self, Int.ofNat_eq_natCast, not_true_eq_false, not_false_eq_true, Decidable.not_not, List.getElem?_cons_zero, List.getElem?_cons_succ, Option.some.injEq, forall_eq', forall_eq, List.set_cons_zero, List.set_cons_succ, List.length_cons, List.length_nil, List.getD_cons_zero, List.getD_cons_succ, tn0, tn1, tn2, tn3, Int.le_refl, Nat.le_refl, Nat.reduceAdd, Int.reduceAdd, Int.reduceLE, Nat.reduceLeDiff, cn4, cn16, Ex.eta]
  refine ⟨fun b => b = true ↔ ¬ (t.clauses.length ≤ 66 ∧ t.name.length ≤ 100), And.intro (fun h => ⟨fun _ => by omega, fun _ => rfl⟩) (fun h => And.intro (fun h' => ⟨fun _ => by omega, fun _ => rfl⟩) (fun h' => ⟨fun h => (by cases h), fun h => by omega⟩)), fun h => ?_, fun h => ?_⟩
  · have := h.1 rfl
    cases hb : fewF t with
    | false => rfl
    | true => exfalso; simp only [fewF, Bool.and_eq_true, decide_eq_true_eq] at hb; exact this hb.1
  · have hh : t.clauses.length ≤ 66 ∧ t.name.length ≤ 100 := Decidable.byContradiction fun hn => by have := h.2 hn; cases this
    have hf : fewF t = (t.clauses.drop 0).all cOk := by simp [fewF, hh.1, hh.2]
    refine ⟨fun x => x.k + x.r = t.clauses.length ∧ fewF t = (t.clauses.drop x.k).all cOk, ⟨⟨0, t.clauses.length⟩, ⟨Nat.zero_add _, hf⟩, rfl⟩, fun x hx => ⟨fun hk => ⟨by omega, by omega, fun c hc => ?_⟩, fun hk => ?_⟩⟩
    · rw [Int.toNat_natCast] at hc
      have hd := all_dropC hc
      have bad : ¬ (c.name.length ≤ 100 ∧ c.when_.length ≤ 12 ∧ c.pay.sz ≤ 60) → false = fewF t := fun h => by
        have : cOk c = false := by
          cases hb : cOk c with
          | false => rfl
          | true => exfalso; simp only [cOk, Bool.and_eq_true, decide_eq_true_eq] at hb; exact h ⟨hb.1.1, hb.1.2, hb.2⟩
        rw [hx.2, hd, this]; rfl
      refine And.intro (fun h => bad (by omega)) (fun h1 => And.intro (fun h => bad (by omega)) (fun h2 => And.intro (fun h => bad (by omega)) (fun h3 => ⟨⟨x.k + 1, x.r - 1⟩, ⟨by dsimp only; omega, ?_⟩, by dsimp only; omega, ?_⟩)))
      · have : cOk c = true := by simp only [cOk, Bool.and_eq_true, decide_eq_true_eq]; omega
        rw [hx.2, hd, this]; rfl
      · dsimp only
        exact (wr64 (by omega) (by omega)).trans (by omega)
    · rw [hx.2, List.drop_of_length_le (by omega)]; rfl
def SmallT (t : Tar) : Prop := (∀ c ∈ t.clauses, c.pay.sz < 1000000000 ∧ c.when_.length < 1000000000000) ∧ t.clauses.length < 1000000000000
noncomputable def Schk : Sum thy := sumP dTar (fun x => SmallT x.1) fun x => .int false .i64 (checkF x.1)
theorem Schk_ok : SumOk E 16 Schk := sumP_ok E_ok (good_of (f := 16) rfl) fun x h => check_pure _ (fun c hc => ⟨by have := (h.1 c hc).1; omega, (h.1 c hc).2⟩) h.2
def intV (p : Int × Int) : SV thy := .tup [.int false .i64 p.1, .int false .i64 p.2]
noncomputable def Atck : Fr thy → Hp thy → Nat → Ann thy := fun T h i => { X := KX, fr := fun x => [(4, T 4), (16, T 16), (17, T 17), (18, .int false .i64 x.k)], bl := fun x => [], src := fun _ => [], md := [], ih := i, M := i + 40, meas := fun x => x.r }
noncomputable def Ftck : Fns thy := addL (addS (addS (addS F0 16 Schk) 17 (sumO rulesPre)) 18 (Sunit 1000000000)) 7 6 Atck E
theorem Ftck_ok : FnsOk E Ftck := addL_ok E_ok (addS_ok (addS_ok (addS_ok F0_ok Schk_ok) Srules_ok) SunitB_ok) _ _ _
--@cond tck | 7 | Ftck | 400 | (t : Tar) | [tarA t] | (p : Int × Int) | intV p
theorem cond_tck (t : Tar) (p : Int × Int) : callF E Ftck (vc E Ftck 400) 7 [tarA t] hp0 0 (fun r => ret E (patch hp0 0 r) r.v (intV p)) = (
  ((∀ (c : Cls), c ∈ Tar.clauses t → Ex.sz (Cls.pay c) + (1 : Nat) ≤ (1000000000 : Nat) ∧ List.length (Cls.when_ c) + (1 : Nat) ≤ (1000000000000 : Nat)) ∧ List.length (Tar.clauses t)
  + (1 : Nat) ≤ (1000000000000 : Nat)) ∧ ((checkF t != (0 : Int)) = true → (0 : Int) = Prod.fst p ∧ checkF t = Prod.snd p ∧ True) ∧ ((checkF t != (0 : Int)) = false → ∃ (R : KX →
  Prop), (∃ (x : KX), R x ∧ true = true ∧ ((rulesEs = rulesEs ∧ true = true) ∧ (Tar.clauses t = Tar.clauses t ∧ (false = true → false = true)) ∧ (↑(List.length (Tar.clauses t)) :
  Int) = (↑(List.length (Tar.clauses t)) : Int) ∧ (0 : Int) = (↑(KX.k x) : Int) ∧ True) ∧ True) ∧ ∀ (x : KX), R x → (decide ((↑(KX.k x) : Int) < (↑(List.length (Tar.clauses t)) :
  Int)) = true → (0 : Int) ≤ (↑(KX.k x) : Int) ∧ (↑(KX.k x) : Int) + (1 : Int) ≤ (↑(List.length (Tar.clauses t)) : Int) ∧ ∀ (x_1 : Cls), (Tar.clauses t)[Int.toNat (↑(KX.k x) : Int)]?
  = some x_1 → SV.pmap rulesEs = rulesV ∧ (Ex.sz (Ex.mk (Ex.op (Cls.pay x_1)) (Ex.n (Cls.pay x_1)) (Ex.d0 (Cls.pay x_1)) (Ex.d1 (Cls.pay x_1)) (Ex.d2 (Cls.pay x_1)) (Ex.d3 (Cls.pay
  x_1)) (Ex.l (Cls.pay x_1))) + (1 : Nat) ≤ (1000000000 : Nat) ∧ formX (Ex.mk (Ex.op (Cls.pay x_1)) (Ex.n (Cls.pay x_1)) (Ex.d0 (Cls.pay x_1)) (Ex.d1 (Cls.pay x_1)) (Ex.d2 (Cls.pay
  x_1)) (Ex.d3 (Cls.pay x_1)) (Ex.l (Cls.pay x_1))) = true) ∧ ∀ (o : Option (List Int)), o = unitX (Ex.mk (Ex.op (Cls.pay x_1)) (Ex.n (Cls.pay x_1)) (Ex.d0 (Cls.pay x_1)) (Ex.d1
  (Cls.pay x_1)) (Ex.d2 (Cls.pay x_1)) (Ex.d3 (Cls.pay x_1)) (Ex.l (Cls.pay x_1))) → (4 : Nat) = (4 : Nat) ∧ ((!Option.isSome o) = true → (↑(KX.k x) : Int) = Prod.fst p ∧ (170 : Int)
  = Prod.snd p ∧ True) ∧ ((!Option.isSome o) = false → (4 : Nat) = (4 : Nat) ∧ ((!(List.getD (Option.getD o [(0 : Int), (0 : Int), (0 : Int), (0 : Int)]) (0 : Nat) (0 : Int) == (1 :
  Int) && (List.getD (Option.getD o [(0 : Int), (0 : Int), (0 : Int), (0 : Int)]) (1 : Nat) (0 : Int) == (0 : Int) && (List.getD (Option.getD o [(0 : Int), (0 : Int), (0 : Int), (0 :
  Int)]) (2 : Nat) (0 : Int) == (0 : Int) && (List.getD (Option.getD o [(0 : Int), (0 : Int), (0 : Int), (0 : Int)]) (3 : Nat) (0 : Int) == (0 : Int) && true))))) = true → (↑(KX.k x)
  : Int) = Prod.fst p ∧ (170 : Int) = Prod.snd p ∧ True) ∧ ((!(List.getD (Option.getD o [(0 : Int), (0 : Int), (0 : Int), (0 : Int)]) (0 : Nat) (0 : Int) == (1 : Int) && (List.getD
  (Option.getD o [(0 : Int), (0 : Int), (0 : Int), (0 : Int)]) (1 : Nat) (0 : Int) == (0 : Int) && (List.getD (Option.getD o [(0 : Int), (0 : Int), (0 : Int), (0 : Int)]) (2 : Nat)
  (0 : Int) == (0 : Int) && (List.getD (Option.getD o [(0 : Int), (0 : Int), (0 : Int), (0 : Int)]) (3 : Nat) (0 : Int) == (0 : Int) && true))))) = false → ∃ (x_2 : KX), R x_2 ∧
  x_2.2 + (1 : Nat) ≤ x.2 ∧ true = true ∧ ((rulesEs = rulesEs ∧ true = true) ∧ (Tar.clauses t = Tar.clauses t ∧ (false = true → false = true)) ∧ (↑(List.length (Tar.clauses t)) :
  Int) = (↑(List.length (Tar.clauses t)) : Int) ∧ wr IntKind.i64 ((↑(KX.k x) : Int) + (1 : Int)) = (↑(KX.k x_2) : Int) ∧ True) ∧ True))) ∧ (decide ((↑(KX.k x) : Int) < (↑(List.length
  (Tar.clauses t)) : Int)) = false → (0 : Int) = Prod.fst p ∧ (0 : Int) = Prod.snd p ∧ True))
  ) := by kernel_rfl
--@end
def goU : Nat → List Cls → Int × Int
  | _, [] => (0, 0)
  | k, c :: r => if unitX c.pay = some [1, 0, 0, 0] then goU (k + 1) r else (k, 170)
noncomputable def chkP (t : Tar) : Int × Int := if checkF t = 0 then goU 0 t.clauses else (0, checkF t)
theorem goC_ok : ∀ (l : List Cls) (a b : Bool) (m : List (List Nat × Bool)), goC a b m l = 0 → ∀ c ∈ l, clsOk c = true
  | [], _, _, _, _, c, hc => by cases hc
  | d :: r, a, b, m, h, c, hc => by
    rw [goC_cons] at h
    split at h
    · rename_i hd
      rcases List.mem_cons.1 hc with rfl | hc
      · exact hd
      · exact goC_ok r _ _ _ h c hc
    · cases h
theorem checkF_ok {t : Tar} (h : checkF t = 0) : ∀ c ∈ t.clauses, formX c.pay = true := fun c hc => by
  unfold checkF at h
  split at h
  · have := goC_ok _ _ _ _ h c hc
    simp only [clsOk, Bool.and_eq_true] at this
    exact this.1.2
  · cases h
theorem goU_drop {l : List Cls} {k : Nat} {c : Cls} (h : l[k]? = some c) : goU k (l.drop k) = if unitX c.pay = some [1, 0, 0, 0] then goU (k + 1) (l.drop (k + 1)) else ((k : Int), 170) := by rw [drop_get h, goU]
theorem fst_snd {p : Int × Int} {a b : Int} (h : p = (a, b)) : a = p.1 ∧ b = p.2 := by rw [h]; exact ⟨rfl, rfl⟩
theorem tck_pure (t : Tar) (hs : SmallT t) : PureC E 7 [tarA t] (intV (chkP t)) := by
  refine pure_of_call E_ok (callOk_of E_ok Ftck_ok 400) ?_
  rw [cond_tck]
  simp only [bif_true, bif_false, bif_nt, bif_tf, bif_ft, beq_iff_eq, bne_iff_ne, beq_eq_false_iff_ne, bne_eq_false_iff_eq, decide_eq_true_eq, decide_eq_false_iff_not, Bool.or_eq_true, Bool.or_eq_false_iff, Bool.not_eq_true', Bool.not_eq_false', Bool.and_eq_true, Bool.and_true, Bool.true_and, Bool.and_eq_false_iff, beq_self_eq_true, mm2_max, mm2_min, ne_eq, and_true, true_and, Bool.true_eq_false, Bool.false_eq_true, false_or, or_false, true_implies, imp_self, Int.ofNat_eq_natCast, not_true_eq_false, not_false_eq_true, Decidable.not_not, List.getElem?_cons_zero, List.getElem?_cons_succ, Option.some.injEq, forall_eq', forall_eq, List.set_cons_zero, List.set_cons_succ, List.length_cons, List.length_nil, List.getD_cons_zero, List.getD_cons_succ, tn0, tn1, tn2, tn3, Int.le_refl, Nat.le_refl, Nat.reduceAdd, Int.reduceAdd, Int.reduceLE, Nat.reduceLeDiff, cn4, cn16, Ex.eta]
  have hs' := hs
  obtain ⟨hs1, hs2⟩ := hs'
  refine ⟨⟨fun c hc => And.intro (by have := (hs1 c hc).1; omega) (by have := (hs1 c hc).2; omega), by omega⟩, fun h => fst_snd (by unfold chkP; rw [if_neg h]), fun h => ?_⟩
  have e : chkP t = goU 0 t.clauses := by unfold chkP; rw [if_pos h]
  refine ⟨fun x => x.k + x.r = t.clauses.length ∧ chkP t = goU x.k (t.clauses.drop x.k), ⟨⟨0, t.clauses.length⟩, ⟨Nat.zero_add _, by rw [e]; rfl⟩, rfl⟩, fun x hx => ⟨fun hk => ⟨by omega, by omega, fun c hc => ?_⟩, fun hk => ?_⟩⟩
  · rw [Int.toNat_natCast] at hc
    have hm := List.mem_of_getElem? hc
    have hf := checkF_ok h c hm
    have hd := goU_drop hc
    have hc2 := hs1 c hm
    refine ⟨rfl, ⟨by omega, hf⟩, fun ho => ?_, fun ho => ?_⟩
    · have hn := Option.isNone_iff_eq_none.1 (Option.isSome_eq_false_iff.1 ho)
      exact fst_snd (by rw [hx.2, hd, hn, if_neg (by simp)])
    · obtain ⟨d, hdd⟩ := Option.isSome_iff_exists.1 ho
      obtain ⟨a0, a1, a2, a3, rfl, _⟩ := unitX_3 c.pay hf hdd
      rw [hdd] at hd ⊢
      simp only [Option.getD_some, List.getD_cons_zero, List.getD_cons_succ]
      refine ⟨fun hn => fst_snd (by
        have hne : ¬ some [a0, a1, a2, a3] = some [(1 : Int), 0, 0, 0] := fun he => by
          simp only [Option.some.injEq, List.cons.injEq, and_true] at he
          omega
        rw [hx.2, hd, if_neg hne]), fun hy => ⟨⟨x.k + 1, x.r - 1⟩, ⟨by dsimp only; omega, ?_⟩, by dsimp only; omega, ?_⟩⟩
      · rw [hx.2, hd, if_pos (by rw [hy.1, hy.2.1, hy.2.2.1, hy.2.2.2])]
      · dsimp only
        exact (wr64 (by omega) (by omega)).trans (by omega)
  · exact fst_snd (by rw [hx.2, List.drop_of_length_le (by omega)]; rfl)
theorem few_small {t : Tar} (h : fewF t = true) : SmallT t ∧ t.clauses.length ≤ 66 ∧ ∀ c ∈ t.clauses, c.pay.sz ≤ 60 := by
  simp only [fewF, Bool.and_eq_true, decide_eq_true_eq, List.all_eq_true] at h
  have h3 : ∀ c ∈ t.clauses, c.when_.length ≤ 12 ∧ c.pay.sz ≤ 60 := fun c hc => by
    have := h.2 c hc
    simp only [cOk, Bool.and_eq_true, decide_eq_true_eq] at this
    exact ⟨this.1.2, this.2⟩
  exact ⟨⟨fun c hc => And.intro (by have := h3 c hc; omega) (by have := h3 c hc; omega), by omega⟩, h.1.1, fun c hc => (h3 c hc).2⟩
noncomputable def Sfew : Sum thy := sumP dTar (fun _ => True) fun x => .bool false (fewF x.1)
theorem Sfew_ok : SumOk E 6 Sfew := sumP_ok E_ok (good_of (f := 6) rfl) fun x h => few_pure _
noncomputable def Stck : Sum thy := sumPY dTar (fun x => SmallT x.1) (fun x => chkP x.1) intV
theorem Stck_ok : SumOk E 7 Stck := sumPY_ok E_ok (good_of (f := 7) rfl) fun x h => tck_pure _ h
end Go.Proofs.YtpllflefaccmkaaGreatDoor

/- Chapter 17: the reference's Check: words, tariffs that are well-formed, nesting. -/
namespace Go.Proofs.YtpllflefaccmkaaGreatDoor
open Go
set_option linter.unusedVariables false
set_option linter.unusedSimpArgs false
set_option maxRecDepth 100000
noncomputable def Aw16 : Fr thy → Hp thy → Nat → Ann thy := fun T h i => { X := KX, fr := fun x => [(0, T 0), (3, .int false .i64 x.k)], bl := fun x => [], src := fun _ => [], md := [], ih := i, M := i + 20, meas := fun x => x.r }
noncomputable def Fw16 : Fns thy := addL F0 72 4 Aw16 E
theorem Fw16_ok : FnsOk E Fw16 := addL_ok E_ok F0_ok _ _ _
--@cond w16 | 72 | Fw16 | 400 | (s : List Nat) | [.str false s] | (v : Bool) | .bool false v
theorem cond_w16 (s : List Nat) (v : Bool) : callF E Fw16 (vc E Fw16 400) 72 [.str false s] hp0 0 (fun r => ret E (patch hp0 0 r) r.v (.bool false v)) = (
  ∃ (Q : Bool → Prop), ((decide ((↑(List.length s) : Int) < (1 : Int)) = true → Q true) ∧ (decide ((↑(List.length s) : Int) < (1 : Int)) = false → (decide ((↑(List.length s) : Int) >
  (32 : Int)) = true → Q true) ∧ (decide ((↑(List.length s) : Int) > (32 : Int)) = false → (0 : Int) ≤ (0 : Int) ∧ (0 : Int) + (1 : Int) ≤ (↑(List.length s) : Int) ∧ ∀ (x : Nat),
  s[Int.toNat (0 : Int)]? = some x → (decide ((↑x : Int) < (97 : Int)) = true → Q true) ∧ (decide ((↑x : Int) < (97 : Int)) = false → (0 : Int) ≤ (0 : Int) ∧ (0 : Int) + (1 : Int) ≤
  (↑(List.length s) : Int) ∧ ∀ (x : Nat), s[Int.toNat (0 : Int)]? = some x → (decide ((↑x : Int) > (122 : Int)) = true → Q true) ∧ (decide ((↑x : Int) > (122 : Int)) = false → Q
  false))))) ∧ (Q true → false = v) ∧ (Q false → ∃ (R : KX → Prop), (∃ (x : KX), R x ∧ true = true ∧ (s = s ∧ (0 : Int) = (↑(KX.k x) : Int) ∧ True) ∧ True) ∧ ∀ (x : KX), R x →
  (decide ((↑(KX.k x) : Int) < (↑(List.length s) : Int)) = true → ∃ (Q : Bool → Prop), ((0 : Int) ≤ (↑(KX.k x) : Int) ∧ (↑(KX.k x) : Int) + (1 : Int) ≤ (↑(List.length s) : Int) ∧ ∀
  (x_1 : Nat), s[Int.toNat (↑(KX.k x) : Int)]? = some x_1 → (decide ((↑x_1 : Int) < (97 : Int)) = true → (0 : Int) ≤ (↑(KX.k x) : Int) ∧ (↑(KX.k x) : Int) + (1 : Int) ≤
  (↑(List.length s) : Int) ∧ ∀ (x_2 : Nat), s[Int.toNat (↑(KX.k x) : Int)]? = some x_2 → (decide ((↑x_2 : Int) < (48 : Int)) = true → Q true) ∧ (decide ((↑x_2 : Int) < (48 : Int)) =
  false → (0 : Int) ≤ (↑(KX.k x) : Int) ∧ (↑(KX.k x) : Int) + (1 : Int) ≤ (↑(List.length s) : Int) ∧ ∀ (x_3 : Nat), s[Int.toNat (↑(KX.k x) : Int)]? = some x_3 → (decide ((↑x_3 : Int)
  > (57 : Int)) = true → Q true) ∧ (decide ((↑x_3 : Int) > (57 : Int)) = false → Q false))) ∧ (decide ((↑x_1 : Int) < (97 : Int)) = false → (0 : Int) ≤ (↑(KX.k x) : Int) ∧ (↑(KX.k x)
  : Int) + (1 : Int) ≤ (↑(List.length s) : Int) ∧ ∀ (x_2 : Nat), s[Int.toNat (↑(KX.k x) : Int)]? = some x_2 → (decide ((↑x_2 : Int) > (122 : Int)) = true → (0 : Int) ≤ (↑(KX.k x) :
  Int) ∧ (↑(KX.k x) : Int) + (1 : Int) ≤ (↑(List.length s) : Int) ∧ ∀ (x_3 : Nat), s[Int.toNat (↑(KX.k x) : Int)]? = some x_3 → (decide ((↑x_3 : Int) < (48 : Int)) = true → Q true) ∧
  (decide ((↑x_3 : Int) < (48 : Int)) = false → (0 : Int) ≤ (↑(KX.k x) : Int) ∧ (↑(KX.k x) : Int) + (1 : Int) ≤ (↑(List.length s) : Int) ∧ ∀ (x_4 : Nat), s[Int.toNat (↑(KX.k x) :
  Int)]? = some x_4 → (decide ((↑x_4 : Int) > (57 : Int)) = true → Q true) ∧ (decide ((↑x_4 : Int) > (57 : Int)) = false → Q false))) ∧ (decide ((↑x_2 : Int) > (122 : Int)) = false →
  Q false))) ∧ (Q true → false = v) ∧ (Q false → ∃ (x_1 : KX), R x_1 ∧ x_1.2 + (1 : Nat) ≤ x.2 ∧ true = true ∧ (s = s ∧ wr IntKind.i64 ((↑(KX.k x) : Int) + (1 : Int)) = (↑(KX.k x_1)
  : Int) ∧ True) ∧ True)) ∧ (decide ((↑(KX.k x) : Int) < (↑(List.length s) : Int)) = false → true = v))
  ) := by kernel_rfl
--@end
theorem w16_pure (s : List Nat) : PureC E 72 [.str false s] (.bool false (wordF s)) := by
  refine pure_of_call E_ok (callOk_of E_ok Fw16_ok 400) ?_
  rw [cond_w16]
  simp only [bif_true, bif_false, bif_nt, bif_tf, bif_ft, beq_iff_eq, bne_iff_ne, beq_eq_false_iff_ne, bne_eq_false_iff_eq, decide_eq_true_eq, decide_eq_false_iff_not, Bool.or_eq_true, Bool.or_eq_false_iff, Bool.not_eq_true', Bool.not_eq_false', Bool.and_eq_true, Bool.and_true, Bool.true_and, Bool.and_eq_false_iff, beq_self_eq_true, mm2_max, mm2_min, ne_eq, and_true, true_and, Bool.true_eq_false, Bool.false_eq_true, false_or, or_false, true_implies, imp_self, Int.ofNat_eq_natCast, not_true_eq_false, not_false_eq_true, Decidable.not_not, List.getElem?_cons_zero, List.getElem?_cons_succ, Option.some.injEq, forall_eq', forall_eq, List.set_cons_zero, List.set_cons_succ, List.length_cons, List.length_nil, List.getD_cons_zero, List.getD_cons_succ, tn0, tn1, tn2, tn3, Int.le_refl, Nat.le_refl, Nat.reduceAdd, Int.reduceAdd, Int.reduceLE, Nat.reduceLeDiff, cn4, cn16]
  have hwb : ∀ c, wb c = true ↔ (97 ≤ c ∧ c ≤ 122) ∨ (48 ≤ c ∧ c ≤ 57) := fun c => by simp [wb]
  have hlow : ∀ c, s[0]? = some c → (lowF s = true ↔ 97 ≤ c ∧ c ≤ 122) := fun c hc => by
    cases s with
    | nil => simp at hc
    | cons c' r =>
      obtain rfl : c' = c := by simpa using hc
      simp [lowF]
  have hnil : s.length < 1 → lowF s = false := fun h => by
    cases s with
    | nil => rfl
    | cons c r => simp at h
  have bad : ¬ (s.length ≤ 32 ∧ lowF s = true) → false = wordF s := fun h => by
    cases hb : wordF s with
    | false => rfl
    | true => exfalso; simp only [wordF, Bool.and_eq_true, decide_eq_true_eq] at hb; exact h hb.1
  refine ⟨fun b => b = true ↔ ¬ (s.length ≤ 32 ∧ lowF s = true), And.intro (fun h => ⟨fun _ hh => (by rw [hnil (by omega)] at hh; exact absurd hh.2 (by decide)), fun _ => rfl⟩) (fun h => And.intro (fun h' => ⟨fun _ hh => (by omega), fun _ => rfl⟩) (fun h' => ⟨by omega, fun c hc => And.intro (fun h3 => ⟨fun _ hh => (by have := (hlow c hc).1 hh.2; omega), fun _ => rfl⟩) (fun h3 => ⟨by omega, fun c2 hc2 => And.intro (fun h4 => ⟨fun _ hh => (by have := (hlow c2 hc2).1 hh.2; omega), fun _ => rfl⟩) (fun h4 => ⟨fun h => (by cases h), fun hh => absurd ⟨by omega, (hlow c2 hc2).2 (And.intro (by have : c = c2 := Option.some.inj (hc.symm.trans hc2); omega) (by omega))⟩ hh⟩)⟩)⟩)), fun h => bad (h.1 rfl), fun h => ?_⟩
  have hh : s.length ≤ 32 ∧ lowF s = true := Decidable.byContradiction fun hn => by have := h.2 hn; cases this
  have hf : wordF s = (s.drop 0).all wb := by simp [wordF, hh.1, hh.2]
  refine ⟨fun x => x.k + x.r = s.length ∧ wordF s = (s.drop x.k).all wb, ⟨⟨0, s.length⟩, ⟨Nat.zero_add _, hf⟩, rfl⟩, fun x hx => ⟨fun hk => ?_, fun hk => by rw [hx.2, List.drop_of_length_le (by omega)]; rfl⟩⟩
  obtain ⟨c, hc⟩ : ∃ c, s[x.k]? = some c := ⟨s[x.k]'(by omega), List.getElem?_eq_getElem _⟩
  have hd : (s.drop x.k).all wb = (wb c && (s.drop (x.k + 1)).all wb) := by rw [drop_get hc, List.all_cons]
  have wF : ¬ ((97 ≤ c ∧ c ≤ 122) ∨ (48 ≤ c ∧ c ≤ 57)) → wb c = !true := fun h => Bool.eq_false_iff.2 fun hw => h ((hwb c).1 hw)
  have wT : (97 ≤ c ∧ c ≤ 122) ∨ (48 ≤ c ∧ c ≤ 57) → wb c = !false := fun h => (hwb c).2 h
  simp only [Int.toNat_natCast, hc, Option.some.injEq, forall_eq']
  refine ⟨fun b => wb c = !b, ⟨by omega, by omega, And.intro (fun h1 => ⟨by omega, by omega, And.intro (fun h2 => wF (by omega)) (fun h2 => ⟨by omega, by omega, And.intro (fun h3 => wF (by omega)) (fun h3 => wT (by omega))⟩)⟩) (fun h1 => ⟨by omega, by omega, And.intro (fun h2 => ⟨by omega, by omega, And.intro (fun h3 => wF (by omega)) (fun h3 => ⟨by omega, by omega, And.intro (fun h4 => wF (by omega)) (fun h4 => wT (by omega))⟩)⟩) (fun h2 => wT (by omega))⟩)⟩, fun hq => ?_, fun hq => ⟨⟨x.k + 1, x.r - 1⟩, ⟨by dsimp only; omega, ?_⟩, by dsimp only; omega, ?_⟩⟩
  · rw [hx.2, hd, hq]; rfl
  · rw [hx.2, hd, hq]; rfl
  · dsimp only
    exact (wr64 (by omega) (by omega)).trans (by omega)
noncomputable def Sw16 : Sum thy := sumP (dA1 dS) (fun _ => True) fun x => .bool false (wordF x.1)
noncomputable def SF16 : Sum thy := sumP dExp (fun x => x.1.sz < 1000000000000) fun x => .bool false (formX x.1)
noncomputable def At16 : Fr thy → Hp thy → Nat → Ann thy := fun T h i => { X := KX, fr := fun x => [(1, T 1), (3, .int false .i64 x.k)], bl := fun x => blkP h (T 1), src := fun _ => [], md := [], ih := i, M := i + 40, meas := fun x => x.r }
noncomputable def At16b : Fr thy → Hp thy → Nat → Ann thy := fun T h i => { X := KX, fr := fun x => [(1, T 1), (3, T 3), (4, T 4), (5, .int false .i64 x.k)], bl := fun x => blkP h (T 1) ++ blkP h (T 4), src := fun _ => [], md := [], ih := i, M := i + 30, meas := fun x => x.r }
noncomputable def Ft16 : Fns thy := addL (addL (addS (addS F0 72 Sw16) 50 SF16) 46 4 At16 E) 46 10 At16b E
--@cond t16 | 46 | Ft16 | 400 | (t : Tar) | [tarA t] | (v : Bool) | .bool false v
theorem cond_t16 (t : Tar) (v : Bool) : callF E Ft16 (vc E Ft16 400) 46 [tarA t] hp0 0 (fun r => ret E (patch hp0 0 r) r.v (.bool false v)) = (
  True ∧ ((!wordF (Tar.name t)) = true → false = v) ∧ ((!wordF (Tar.name t)) = false → (decide (Tar.for_ t < (1 : Int)) = true → false = v) ∧ (decide (Tar.for_ t < (1 : Int)) = false
  → (decide (Tar.for_ t > (6 : Int)) = true → false = v) ∧ (decide (Tar.for_ t > (6 : Int)) = false → ∃ (R : KX → Prop), (∃ (x : KX), R x ∧ true = true ∧ ((0 : Nat) = (0 : Nat) ∧ (0
  : Int) = (↑(KX.k x) : Int) ∧ True) ∧ (Tar.name t = Tar.name t ∧ Tar.for_ t = Tar.for_ t ∧ (Tar.clauses t = Tar.clauses t ∧ (false = true → false = true)) ∧ True) ∧ True) ∧ ∀ (x :
  KX), R x → (decide ((↑(KX.k x) : Int) < (↑(List.length (Tar.clauses t)) : Int)) = true → (0 : Int) ≤ (↑(KX.k x) : Int) ∧ (↑(KX.k x) : Int) + (1 : Int) ≤ (↑(List.length (Tar.clauses
  t)) : Int) ∧ ∀ (x_1 : Cls), (Tar.clauses t)[Int.toNat (↑(KX.k x) : Int)]? = some x_1 → True ∧ ((!wordF (Cls.name x_1)) = true → false = v) ∧ ((!wordF (Cls.name x_1)) = false →
  Ex.sz (Ex.mk (Ex.op (Cls.pay x_1)) (Ex.n (Cls.pay x_1)) (Ex.d0 (Cls.pay x_1)) (Ex.d1 (Cls.pay x_1)) (Ex.d2 (Cls.pay x_1)) (Ex.d3 (Cls.pay x_1)) (Ex.l (Cls.pay x_1))) + (1 : Nat) ≤
  (1000000000000 : Nat) ∧ ((!formX (Ex.mk (Ex.op (Cls.pay x_1)) (Ex.n (Cls.pay x_1)) (Ex.d0 (Cls.pay x_1)) (Ex.d1 (Cls.pay x_1)) (Ex.d2 (Cls.pay x_1)) (Ex.d3 (Cls.pay x_1)) (Ex.l
  (Cls.pay x_1)))) = true → false = v) ∧ ((!formX (Ex.mk (Ex.op (Cls.pay x_1)) (Ex.n (Cls.pay x_1)) (Ex.d0 (Cls.pay x_1)) (Ex.d1 (Cls.pay x_1)) (Ex.d2 (Cls.pay x_1)) (Ex.d3 (Cls.pay
  x_1)) (Ex.l (Cls.pay x_1)))) = false → ∃ (R_1 : KX → Prop), (∃ (x_2 : KX), R_1 x_2 ∧ true = true ∧ ((0 : Nat) = (0 : Nat) ∧ (↑(KX.k x) : Int) = (↑(KX.k x) : Int) ∧ (0 : Nat) = (0 :
  Nat) ∧ (0 : Int) = (↑(KX.k x_2) : Int) ∧ True) ∧ (Tar.name t = Tar.name t ∧ Tar.for_ t = Tar.for_ t ∧ (Tar.clauses t = Tar.clauses t ∧ (false = true → false = true)) ∧ True) ∧
  (Cls.name x_1 = Cls.name x_1 ∧ (Cls.when_ x_1 = Cls.when_ x_1 ∧ (false = true → false = true)) ∧ Ex.op (Cls.pay x_1) = Ex.op (Cls.pay x_1) ∧ Ex.n (Cls.pay x_1) = Ex.n (Cls.pay x_1)
  ∧ Ex.d0 (Cls.pay x_1) = Ex.d0 (Cls.pay x_1) ∧ Ex.d1 (Cls.pay x_1) = Ex.d1 (Cls.pay x_1) ∧ Ex.d2 (Cls.pay x_1) = Ex.d2 (Cls.pay x_1) ∧ Ex.d3 (Cls.pay x_1) = Ex.d3 (Cls.pay x_1) ∧
  (Ex.l (Cls.pay x_1) = Ex.l (Cls.pay x_1) ∧ (false = true → false = true)) ∧ True) ∧ True) ∧ ∀ (x_2 : KX), R_1 x_2 → (decide ((↑(KX.k x_2) : Int) < (↑(List.length (Cls.when_ x_1)) :
  Int)) = true → (0 : Int) ≤ (↑(KX.k x_2) : Int) ∧ (↑(KX.k x_2) : Int) + (1 : Int) ≤ (↑(List.length (Cls.when_ x_1)) : Int) ∧ ∀ (x_3 : Tst), (Cls.when_ x_1)[Int.toNat (↑(KX.k x_2) :
  Int)]? = some x_3 → ∃ (Q : Bool → Prop), ((decide (Tst.attr x_3 < (0 : Int)) = true → Q true) ∧ (decide (Tst.attr x_3 < (0 : Int)) = false → (decide (Tst.attr x_3 ≥ (16 : Int)) =
  true → Q true) ∧ (decide (Tst.attr x_3 ≥ (16 : Int)) = false → (decide (Tst.low x_3 < (0 : Int)) = true → Q true) ∧ (decide (Tst.low x_3 < (0 : Int)) = false → (decide (Tst.low x_3
  > (1099511627776 : Int)) = true → Q true) ∧ (decide (Tst.low x_3 > (1099511627776 : Int)) = false → (decide (Tst.high x_3 < (0 : Int)) = true → Q true) ∧ (decide (Tst.high x_3 < (0
  : Int)) = false → (decide (Tst.high x_3 > (1099511627776 : Int)) = true → Q true) ∧ (decide (Tst.high x_3 > (1099511627776 : Int)) = false → Q false))))))) ∧ (Q true → false = v) ∧
  (Q false → ∃ (x_4 : KX), R_1 x_4 ∧ x_4.2 + (1 : Nat) ≤ x_2.2 ∧ true = true ∧ ((0 : Nat) = (0 : Nat) ∧ (↑(KX.k x) : Int) = (↑(KX.k x) : Int) ∧ (0 : Nat) = (0 : Nat) ∧ wr IntKind.i64
  ((↑(KX.k x_2) : Int) + (1 : Int)) = (↑(KX.k x_4) : Int) ∧ True) ∧ (Tar.name t = Tar.name t ∧ Tar.for_ t = Tar.for_ t ∧ (Tar.clauses t = Tar.clauses t ∧ (false = true → false =
  true)) ∧ True) ∧ (Cls.name x_1 = Cls.name x_1 ∧ (Cls.when_ x_1 = Cls.when_ x_1 ∧ (false = true → false = true)) ∧ Ex.op (Cls.pay x_1) = Ex.op (Cls.pay x_1) ∧ Ex.n (Cls.pay x_1) =
  Ex.n (Cls.pay x_1) ∧ Ex.d0 (Cls.pay x_1) = Ex.d0 (Cls.pay x_1) ∧ Ex.d1 (Cls.pay x_1) = Ex.d1 (Cls.pay x_1) ∧ Ex.d2 (Cls.pay x_1) = Ex.d2 (Cls.pay x_1) ∧ Ex.d3 (Cls.pay x_1) = Ex.d3
  (Cls.pay x_1) ∧ (Ex.l (Cls.pay x_1) = Ex.l (Cls.pay x_1) ∧ (false = true → false = true)) ∧ True) ∧ True)) ∧ (decide ((↑(KX.k x_2) : Int) < (↑(List.length (Cls.when_ x_1)) : Int))
  = false → ∃ (x_3 : KX), R x_3 ∧ x_3.2 + (1 : Nat) ≤ x.2 ∧ true = true ∧ ((0 : Nat) = (0 : Nat) ∧ wr IntKind.i64 ((↑(KX.k x) : Int) + (1 : Int)) = (↑(KX.k x_3) : Int) ∧ True) ∧
  (Tar.name t = Tar.name t ∧ Tar.for_ t = Tar.for_ t ∧ (Tar.clauses t = Tar.clauses t ∧ (false = true → false = true)) ∧ True) ∧ True)))) ∧ (decide ((↑(KX.k x) : Int) <
  (↑(List.length (Tar.clauses t)) : Int)) = false → true = v))))
  ) := by kernel_rfl
--@end
theorem Sw16_ok : SumOk E 72 Sw16 := sumP_ok E_ok (good_of (f := 72) rfl) fun x h => w16_pure _
theorem SF16_ok : SumOk E 50 SF16 := sumP_ok E_ok (good_of (f := 50) rfl) fun x h => form16_aux _ (Nat.le_refl _) _ h
theorem Ft16_ok : FnsOk E Ft16 := addL_ok E_ok (addL_ok E_ok (addS_ok (addS_ok F0_ok Sw16_ok) SF16_ok) _ _ _) _ _ _
def tarF (t : Tar) : Bool := wordF t.name && decide (1 ≤ t.for_ ∧ t.for_ ≤ 6) && t.clauses.all clsOk
theorem t16_pure (t : Tar) (hsz : ∀ c ∈ t.clauses, c.pay.sz < 1000000000 ∧ c.when_.length < 1000000000000) (hl : t.clauses.length < 1000000000000) : PureC E 46 [tarA t] (.bool false (tarF t)) := by
  refine pure_of_call E_ok (callOk_of E_ok Ft16_ok 400) ?_
  rw [cond_t16]
  simp only [bif_true, bif_false, bif_nt, bif_tf, bif_ft, beq_iff_eq, bne_iff_ne, beq_eq_false_iff_ne, bne_eq_false_iff_eq, decide_eq_true_eq, decide_eq_false_iff_not, Bool.or_eq_true, Bool.or_eq_false_iff, Bool.not_eq_true', Bool.not_eq_false', Bool.and_eq_true, Bool.and_true, Bool.true_and, Bool.and_eq_false_iff, beq_self_eq_true, mm2_max, mm2_min, ne_eq, and_true, true_and, Bool.true_eq_false, Bool.false_eq_true, false_or, or_false, true_implies, imp_self, Int.ofNat_eq_natCast, not_true_eq_false, not_false_eq_true, Decidable.not_not, List.getElem?_cons_zero, List.getElem?_cons_succ, Option.some.injEq, forall_eq', forall_eq, List.set_cons_zero, List.set_cons_succ, List.length_cons, List.length_nil, List.getD_cons_zero, List.getD_cons_succ, tn0, tn1, tn2, tn3, Int.le_refl, Nat.le_refl, Nat.reduceAdd, Int.reduceAdd, Int.reduceLE, Nat.reduceLeDiff, cn4, cn16, Ex.eta]
  have e0 : tarF t = (wordF t.name && decide (1 ≤ t.for_ ∧ t.for_ ≤ 6) && t.clauses.all clsOk) := rfl
  have bad : ¬ (1 ≤ t.for_ ∧ t.for_ ≤ 6) → false = tarF t := fun h => by rw [e0, decide_eq_false h, Bool.and_false, Bool.false_and]
  refine And.intro (fun h => by rw [e0, h]; rfl) (fun h1 => And.intro (fun h => bad (by omega)) (fun h2 => And.intro (fun h => bad (by omega)) (fun h3 => ?_)))
  have hf : tarF t = (t.clauses.drop 0).all clsOk := by rw [e0, h1, decide_eq_true (show 1 ≤ t.for_ ∧ t.for_ ≤ 6 by omega)]; rfl
  refine ⟨fun x => x.k + x.r = t.clauses.length ∧ tarF t = (t.clauses.drop x.k).all clsOk, ⟨⟨0, t.clauses.length⟩, ⟨Nat.zero_add _, hf⟩, rfl⟩, fun x hx => ⟨fun hk => ⟨by omega, by omega, fun c hc => ?_⟩, fun hk => by rw [hx.2, List.drop_of_length_le (by omega)]; rfl⟩⟩
  rw [Int.toNat_natCast] at hc
  have hs := hsz c (List.mem_of_getElem? hc)
  have hd : (t.clauses.drop x.k).all clsOk = (clsOk c && (t.clauses.drop (x.k + 1)).all clsOk) := by rw [drop_get hc, List.all_cons]
  have ec : clsOk c = (wordF c.name && formX c.pay && c.when_.all testOk) := rfl
  refine And.intro (fun h => by rw [hx.2, hd, ec, h]; rfl) (fun h4 => And.intro (by omega) (And.intro (fun h => by rw [hx.2, hd, ec, h, Bool.and_false]; rfl) (fun h5 => ?_)))
  refine ⟨fun y => y.k + y.r = c.when_.length ∧ tarF t = ((c.when_.drop y.k).all testOk && (t.clauses.drop (x.k + 1)).all clsOk), ⟨⟨0, c.when_.length⟩, ⟨Nat.zero_add _, by rw [hx.2, hd, ec, h4, h5]; rfl⟩, rfl⟩, fun y hy => ⟨fun hk2 => ⟨by omega, by omega, fun w hw => ?_⟩, fun hk2 => ⟨⟨x.k + 1, x.r - 1⟩, ⟨by dsimp only; omega, by rw [hy.2, List.drop_of_length_le (by omega)]; rfl⟩, by dsimp only; omega, ?_⟩⟩⟩
  · rw [Int.toNat_natCast] at hw
    have hwd := all_drop hw
    have wF : ¬ (0 ≤ w.attr ∧ w.attr < 16 ∧ 0 ≤ w.low ∧ w.low ≤ 1099511627776 ∧ 0 ≤ w.high ∧ w.high ≤ 1099511627776) → testOk w = !true := fun h => decide_eq_false h
    have wT : (0 ≤ w.attr ∧ w.attr < 16 ∧ 0 ≤ w.low ∧ w.low ≤ 1099511627776 ∧ 0 ≤ w.high ∧ w.high ≤ 1099511627776) → testOk w = !false := fun h => decide_eq_true h
    refine ⟨fun b => testOk w = !b, And.intro (fun h => wF (by omega)) (fun a1 => And.intro (fun h => wF (by omega)) (fun a2 => And.intro (fun h => wF (by omega)) (fun a3 => And.intro (fun h => wF (by omega)) (fun a4 => And.intro (fun h => wF (by omega)) (fun a5 => And.intro (fun h => wF (by omega)) (fun a6 => wT (by omega))))))), fun hq => ?_, fun hq => ⟨⟨y.k + 1, y.r - 1⟩, ⟨by dsimp only; omega, ?_⟩, by dsimp only; omega, ?_⟩⟩
    · rw [hy.2, hwd, hq]; rfl
    · rw [hy.2, hwd, hq]; rfl
    · dsimp only
      exact (wr64 (by omega) (by omega)).trans (by omega)
  · dsimp only
    exact (wr64 (by omega) (by omega)).trans (by omega)
noncomputable def SNst16 (m : Nat) : Sum thy := sumP dExp (fun x => x.1.sz < m) fun x => .int false .i64 (nestX x.1 : Int)
noncomputable def An16 : Fr thy → Hp thy → Nat → Ann thy := fun T h i => { X := DX, fr := fun x => [(1, T 1), (3, .int false .i64 x.j), (4, .int false .i64 x.k)], bl := fun x => blkP h (T 1), src := fun _ => [], md := [], ih := i, M := i + 40, meas := fun x => x.r }
noncomputable def Fn16 (m : Nat) : Fns thy := addL (addS F0 49 (SNst16 m)) 49 3 An16 E
--@cond n16 | 49 | F0>(Fn16 m) | 400 | (m : Nat) (x : Ex) | [exA x] | (v : Int) | .int false .i64 v
theorem cond_n16 (m : Nat) (x : Ex) (v : Int) : callF E F0 (vc E (Fn16 m) 400) 49 [exA x] hp0 0 (fun r => ret E (patch hp0 0 r) r.v (.int false .i64 v)) = (
  ∃ (R : DX → Prop), (∃ (x_1 : DX), R x_1 ∧ true = true ∧ ((0 : Nat) = (0 : Nat) ∧ (0 : Int) = DX.j x_1 ∧ (0 : Int) = (↑(DX.k x_1) : Int) ∧ True) ∧ (Ex.op x = Ex.op x ∧ Ex.n x = Ex.n
  x ∧ Ex.d0 x = Ex.d0 x ∧ Ex.d1 x = Ex.d1 x ∧ Ex.d2 x = Ex.d2 x ∧ Ex.d3 x = Ex.d3 x ∧ (Ex.l x = Ex.l x ∧ (false = true → false = true)) ∧ True) ∧ True) ∧ ∀ (x_1 : DX), R x_1 →
  (decide ((↑(DX.k x_1) : Int) < (↑(List.length (Ex.l x)) : Int)) = true → (0 : Int) ≤ (↑(DX.k x_1) : Int) ∧ (↑(DX.k x_1) : Int) + (1 : Int) ≤ (↑(List.length (Ex.l x)) : Int) ∧ ∀
  (x_2 : Ex), (Ex.l x)[Int.toNat (↑(DX.k x_1) : Int)]? = some x_2 → Ex.sz (Ex.mk (Ex.op x_2) (Ex.n x_2) (Ex.d0 x_2) (Ex.d1 x_2) (Ex.d2 x_2) (Ex.d3 x_2) (Ex.l x_2)) + (1 : Nat) ≤ m ∧
  ∃ (x_3 : DX), R x_3 ∧ x_3.2 + (1 : Nat) ≤ x_1.2 ∧ true = true ∧ ((0 : Nat) = (0 : Nat) ∧ mm2 true (DX.j x_1) (↑(nestX (Ex.mk (Ex.op x_2) (Ex.n x_2) (Ex.d0 x_2) (Ex.d1 x_2) (Ex.d2
  x_2) (Ex.d3 x_2) (Ex.l x_2))) : Int) = DX.j x_3 ∧ wr IntKind.i64 ((↑(DX.k x_1) : Int) + (1 : Int)) = (↑(DX.k x_3) : Int) ∧ True) ∧ (Ex.op x = Ex.op x ∧ Ex.n x = Ex.n x ∧ Ex.d0 x =
  Ex.d0 x ∧ Ex.d1 x = Ex.d1 x ∧ Ex.d2 x = Ex.d2 x ∧ Ex.d3 x = Ex.d3 x ∧ (Ex.l x = Ex.l x ∧ (false = true → false = true)) ∧ True) ∧ True) ∧ (decide ((↑(DX.k x_1) : Int) <
  (↑(List.length (Ex.l x)) : Int)) = false → wr IntKind.i64 (DX.j x_1 + (1 : Int)) = v)
  ) := by kernel_rfl
--@end
theorem n16_aux : ∀ (m : Nat) (x : Ex), x.sz ≤ m → m ≤ 1000000000000 → PureC E 49 [exA x] (.int false .i64 (nestX x : Int)) := by
  intro m
  induction m with
  | zero => intro x h; have := x.sz_pos; omega
  | succ m ih =>
    intro x hm hb
    have hF : FnsOk E (Fn16 (m + 1)) := addL_ok E_ok (addS_ok F0_ok (sumP_ok E_ok (good_of (f := 49) rfl) fun x h => ih x.1 (by omega) (by omega))) _ _ _
    refine pure_of_call E_ok (callF_ok E_ok F0_ok fun f N c => (vc_ok E_ok hF 400 f N c).1) ?_
    rw [cond_n16]
    simp only [bif_true, bif_false, bif_nt, bif_tf, bif_ft, beq_iff_eq, bne_iff_ne, beq_eq_false_iff_ne, bne_eq_false_iff_eq, decide_eq_true_eq, decide_eq_false_iff_not, Bool.or_eq_true, Bool.or_eq_false_iff, Bool.not_eq_true', Bool.not_eq_false', Bool.and_eq_true, Bool.and_true, Bool.true_and, Bool.and_eq_false_iff, beq_self_eq_true, mm2_max, mm2_min, ne_eq, and_true, true_and, Bool.true_eq_false, Bool.false_eq_true, false_or, or_false, true_implies, imp_self, Int.ofNat_eq_natCast, not_true_eq_false, not_false_eq_true, Decidable.not_not, List.getElem?_cons_zero, List.getElem?_cons_succ, Option.some.injEq, forall_eq', forall_eq, List.set_cons_zero, List.set_cons_succ, List.length_cons, List.length_nil, List.getD_cons_zero, List.getD_cons_succ, tn0, tn1, tn2, tn3, Int.le_refl, Nat.le_refl, Nat.reduceAdd, Int.reduceAdd, Int.reduceLE, Nat.reduceLeDiff, cn4, cn16, Ex.eta]
    have hsz := x.sz_eq
    have hlen := Ex.szL_len x.l
    have hnx := nestX_eq x
    have hns := nestX_sz x
    refine ⟨fun y => y.k ≤ x.l.length ∧ 0 ≤ y.j ∧ max y.j (nestL (x.l.drop y.k) : Int) = (nestL x.l : Int) ∧ y.r = x.l.length - y.k, ⟨⟨0, x.l.length, [], [], 0, 0, 0, 0⟩, ⟨(by dsimp only; omega), (by dsimp only; omega), by dsimp only; rw [List.drop_zero]; omega, rfl⟩, rfl, rfl⟩, ?_⟩
    rintro y ⟨hk, hj1, hv, hr⟩
    refine And.intro (fun hq => ?_) (fun hq => ?_)
    · refine ⟨by omega, by omega, fun z hz => ?_⟩
      have hz : x.l[y.k]? = some z := hz
      have hzs := Ex.sz_mem (List.mem_of_getElem? hz)
      rw [nestL_drop hz] at hv
      rw [wr64 (n := (y.k : Int) + 1) (by omega) (by omega)]
      exact ⟨by omega, ⟨y.k + 1, x.l.length - (y.k + 1), [], [], 0, 0, 0, max y.j (nestX z : Int)⟩, ⟨(by dsimp only; omega), (by dsimp only; omega), (by dsimp only; omega), rfl⟩, by show x.l.length - (y.k + 1) + 1 ≤ y.r; omega, rfl, rfl⟩
    · rw [drop_end (by omega)] at hv
      simp only [nestL] at hv
      rw [wr64 (by omega) (by omega)]
      omega
end Go.Proofs.YtpllflefaccmkaaGreatDoor
