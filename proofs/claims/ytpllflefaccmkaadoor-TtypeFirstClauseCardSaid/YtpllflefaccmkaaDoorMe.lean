/- Merged texts: TtJ, TtK, TtM, TtN, TtR, TtB, EngZI, TtC, TtL, TtP, TtU. -/
import Derived.Test.YtpllflefaccmkaaDoorMd
/- Chapter 17: units of expressions. -/
namespace Go.Proofs.YtpllflefaccmkaaDoor
open Go
set_option linter.unusedVariables false
set_option linter.unusedSimpArgs false
set_option maxRecDepth 100000
noncomputable def dDims : Dc E (List (List Int)) := (dList (E := E) Th.dims : Dc E (List (thy.dom Th.dims)))
/-- the number that a rule has kept -/
def dPow : Dc E Int where
  dec v := match v with | .pptr Th.ints n 0 => some n | _ => none
  enc n := .pptr Th.ints n 0
  ok v a h := by
    split at h
    · cases h; exact ⟨rfl, rfl, fun _ _ _ h => h⟩
    · cases h
def dimV (d : List Int) : SV thy := .agg (encF false .dims d)
def optV (o : Option (List Int)) : SV thy := .tup [dimV (o.getD [0, 0, 0, 0]), .bool false o.isSome]
--@cond pow | 59 | F0 | 2000 | (ds : List (List Int)) (n : Int) | [.psl Th.dims ds false, .pptr Th.ints n 0] | (d : List Int) (b : Bool) | .tup [dimV d, .bool false b]
theorem cond_pow (ds : List (List Int)) (n : Int) (d : List Int) (b : Bool) : callF E F0 (vc E F0 2000) 59 [.psl Th.dims ds false, .pptr Th.ints n 0] hp0 0 (fun r => ret E (patch hp0 0 r) r.v (.tup [dimV d, .bool false b])) = (
  (0 : Int) ≤ (0 : Int) ∧ (0 : Int) + (1 : Int) ≤ (↑(List.length ds) : Int) ∧ ∀ (x : List Int), ds[Int.toNat (0 : Int)]? = some x → (0 : Int) ≤ (1 : Int) ∧ (1 : Int) + (1 : Int) ≤
  (↑(List.length ds) : Int) ∧ ∀ (x_1 : List Int), ds[Int.toNat (1 : Int)]? = some x_1 → ((0 : Int) ≤ (0 : Int) ∧ (0 : Int) + (1 : Int) ≤ (↑(4 : Nat) : Int)) ∧ (0 : Nat) ≤ Int.toNat
  (0 : Int) ∧ Int.toNat (0 : Int) + (1 : Nat) ≤ (4 : Nat) ∧ ∀ (x_2 : Int), [(0 : Int), (0 : Int), (0 : Int), (0 : Int)][Int.toNat (0 : Int)]? = some x_2 → ∃ (Q : Bool → Prop), (((0 :
  Int) ≤ (0 : Int) ∧ (0 : Int) + (1 : Int) ≤ (↑(4 : Nat) : Int)) ∧ Int.toNat (0 : Int) + (1 : Nat) ≤ List.length (List.set [(0 : Int), (0 : Int), (0 : Int), (0 : Int)] (Int.toNat (0
  : Int)) (wr IntKind.i64 (List.getD x (0 : Nat) (0 : Int) + wr IntKind.i64 (n * List.getD x_1 (0 : Nat) (0 : Int))))) ∧ ∀ (x_3 : Int), (List.set [(0 : Int), (0 : Int), (0 : Int), (0
  : Int)] (Int.toNat (0 : Int)) (wr IntKind.i64 (List.getD x (0 : Nat) (0 : Int) + wr IntKind.i64 (n * List.getD x_1 (0 : Nat) (0 : Int)))))[Int.toNat (0 : Int)]? = some x_3 →
  (decide (x_3 < (-3 : Int)) = true → Q true) ∧ (decide (x_3 < (-3 : Int)) = false → ((0 : Int) ≤ (0 : Int) ∧ (0 : Int) + (1 : Int) ≤ (↑(4 : Nat) : Int)) ∧ Int.toNat (0 : Int) + (1 :
  Nat) ≤ List.length (List.set [(0 : Int), (0 : Int), (0 : Int), (0 : Int)] (Int.toNat (0 : Int)) (wr IntKind.i64 (List.getD x (0 : Nat) (0 : Int) + wr IntKind.i64 (n * List.getD x_1
  (0 : Nat) (0 : Int))))) ∧ ∀ (x_4 : Int), (List.set [(0 : Int), (0 : Int), (0 : Int), (0 : Int)] (Int.toNat (0 : Int)) (wr IntKind.i64 (List.getD x (0 : Nat) (0 : Int) + wr
  IntKind.i64 (n * List.getD x_1 (0 : Nat) (0 : Int)))))[Int.toNat (0 : Int)]? = some x_4 → (decide (x_4 > (3 : Int)) = true → Q true) ∧ (decide (x_4 > (3 : Int)) = false → Q
  false))) ∧ (Q true → List.length (List.set [(0 : Int), (0 : Int), (0 : Int), (0 : Int)] (Int.toNat (0 : Int)) (wr IntKind.i64 (List.getD x (0 : Nat) (0 : Int) + wr IntKind.i64 (n *
  List.getD x_1 (0 : Nat) (0 : Int))))) = (4 : Nat) ∧ (4 : Nat) = (4 : Nat) ∧ (List.getD [(0 : Int), (0 : Int), (0 : Int), (0 : Int)] (0 : Nat) (0 : Int) = List.getD d (0 : Nat) (0 :
  Int) ∧ List.getD [(0 : Int), (0 : Int), (0 : Int), (0 : Int)] (1 : Nat) (0 : Int) = List.getD d (1 : Nat) (0 : Int) ∧ List.getD [(0 : Int), (0 : Int), (0 : Int), (0 : Int)] (2 :
  Nat) (0 : Int) = List.getD d (2 : Nat) (0 : Int) ∧ List.getD [(0 : Int), (0 : Int), (0 : Int), (0 : Int)] (3 : Nat) (0 : Int) = List.getD d (3 : Nat) (0 : Int) ∧ True) ∧ false = b
  ∧ True) ∧ (Q false → (0 : Int) ≤ (0 : Int) ∧ (0 : Int) + (1 : Int) ≤ (↑(List.length ds) : Int) ∧ ∀ (x_3 : List Int), ds[Int.toNat (0 : Int)]? = some x_3 → (0 : Int) ≤ (1 : Int) ∧
  (1 : Int) + (1 : Int) ≤ (↑(List.length ds) : Int) ∧ ∀ (x_4 : List Int), ds[Int.toNat (1 : Int)]? = some x_4 → ((0 : Int) ≤ (1 : Int) ∧ (1 : Int) + (1 : Int) ≤ (↑(4 : Nat) : Int)) ∧
  (0 : Nat) ≤ Int.toNat (1 : Int) ∧ Int.toNat (1 : Int) + (1 : Nat) ≤ List.length (List.set [(0 : Int), (0 : Int), (0 : Int), (0 : Int)] (Int.toNat (0 : Int)) (wr IntKind.i64
  (List.getD x (0 : Nat) (0 : Int) + wr IntKind.i64 (n * List.getD x_1 (0 : Nat) (0 : Int))))) ∧ ∀ (x_5 : Int), (List.set [(0 : Int), (0 : Int), (0 : Int), (0 : Int)] (Int.toNat (0 :
  Int)) (wr IntKind.i64 (List.getD x (0 : Nat) (0 : Int) + wr IntKind.i64 (n * List.getD x_1 (0 : Nat) (0 : Int)))))[Int.toNat (1 : Int)]? = some x_5 → ∃ (Q : Bool → Prop), (((0 :
  Int) ≤ (1 : Int) ∧ (1 : Int) + (1 : Int) ≤ (↑(4 : Nat) : Int)) ∧ Int.toNat (1 : Int) + (1 : Nat) ≤ List.length (List.set (List.set [(0 : Int), (0 : Int), (0 : Int), (0 : Int)]
  (Int.toNat (0 : Int)) (wr IntKind.i64 (List.getD x (0 : Nat) (0 : Int) + wr IntKind.i64 (n * List.getD x_1 (0 : Nat) (0 : Int))))) (Int.toNat (1 : Int)) (wr IntKind.i64 (List.getD
  x_3 (1 : Nat) (0 : Int) + wr IntKind.i64 (n * List.getD x_4 (1 : Nat) (0 : Int))))) ∧ ∀ (x_6 : Int), (List.set (List.set [(0 : Int), (0 : Int), (0 : Int), (0 : Int)] (Int.toNat (0
  : Int)) (wr IntKind.i64 (List.getD x (0 : Nat) (0 : Int) + wr IntKind.i64 (n * List.getD x_1 (0 : Nat) (0 : Int))))) (Int.toNat (1 : Int)) (wr IntKind.i64 (List.getD x_3 (1 : Nat)
  (0 : Int) + wr IntKind.i64 (n * List.getD x_4 (1 : Nat) (0 : Int)))))[Int.toNat (1 : Int)]? = some x_6 → (decide (x_6 < (-3 : Int)) = true → Q true) ∧ (decide (x_6 < (-3 : Int)) =
  false → ((0 : Int) ≤ (1 : Int) ∧ (1 : Int) + (1 : Int) ≤ (↑(4 : Nat) : Int)) ∧ Int.toNat (1 : Int) + (1 : Nat) ≤ List.length (List.set (List.set [(0 : Int), (0 : Int), (0 : Int),
  (0 : Int)] (Int.toNat (0 : Int)) (wr IntKind.i64 (List.getD x (0 : Nat) (0 : Int) + wr IntKind.i64 (n * List.getD x_1 (0 : Nat) (0 : Int))))) (Int.toNat (1 : Int)) (wr IntKind.i64
  (List.getD x_3 (1 : Nat) (0 : Int) + wr IntKind.i64 (n * List.getD x_4 (1 : Nat) (0 : Int))))) ∧ ∀ (x_7 : Int), (List.set (List.set [(0 : Int), (0 : Int), (0 : Int), (0 : Int)]
  (Int.toNat (0 : Int)) (wr IntKind.i64 (List.getD x (0 : Nat) (0 : Int) + wr IntKind.i64 (n * List.getD x_1 (0 : Nat) (0 : Int))))) (Int.toNat (1 : Int)) (wr IntKind.i64 (List.getD
  x_3 (1 : Nat) (0 : Int) + wr IntKind.i64 (n * List.getD x_4 (1 : Nat) (0 : Int)))))[Int.toNat (1 : Int)]? = some x_7 → (decide (x_7 > (3 : Int)) = true → Q true) ∧ (decide (x_7 >
  (3 : Int)) = false → Q false))) ∧ (Q true → List.length (List.set (List.set [(0 : Int), (0 : Int), (0 : Int), (0 : Int)] (Int.toNat (0 : Int)) (wr IntKind.i64 (List.getD x (0 :
  Nat) (0 : Int) + wr IntKind.i64 (n * List.getD x_1 (0 : Nat) (0 : Int))))) (Int.toNat (1 : Int)) (wr IntKind.i64 (List.getD x_3 (1 : Nat) (0 : Int) + wr IntKind.i64 (n * List.getD
  x_4 (1 : Nat) (0 : Int))))) = (4 : Nat) ∧ (4 : Nat) = (4 : Nat) ∧ (List.getD [(0 : Int), (0 : Int), (0 : Int), (0 : Int)] (0 : Nat) (0 : Int) = List.getD d (0 : Nat) (0 : Int) ∧
  List.getD [(0 : Int), (0 : Int), (0 : Int), (0 : Int)] (1 : Nat) (0 : Int) = List.getD d (1 : Nat) (0 : Int) ∧ List.getD [(0 : Int), (0 : Int), (0 : Int), (0 : Int)] (2 : Nat) (0 :
  Int) = List.getD d (2 : Nat) (0 : Int) ∧ List.getD [(0 : Int), (0 : Int), (0 : Int), (0 : Int)] (3 : Nat) (0 : Int) = List.getD d (3 : Nat) (0 : Int) ∧ True) ∧ false = b ∧ True) ∧
  (Q false → (0 : Int) ≤ (0 : Int) ∧ (0 : Int) + (1 : Int) ≤ (↑(List.length ds) : Int) ∧ ∀ (x_6 : List Int), ds[Int.toNat (0 : Int)]? = some x_6 → (0 : Int) ≤ (1 : Int) ∧ (1 : Int) +
  (1 : Int) ≤ (↑(List.length ds) : Int) ∧ ∀ (x_7 : List Int), ds[Int.toNat (1 : Int)]? = some x_7 → ((0 : Int) ≤ (2 : Int) ∧ (2 : Int) + (1 : Int) ≤ (↑(4 : Nat) : Int)) ∧ (0 : Nat) ≤
  Int.toNat (2 : Int) ∧ Int.toNat (2 : Int) + (1 : Nat) ≤ List.length (List.set (List.set [(0 : Int), (0 : Int), (0 : Int), (0 : Int)] (Int.toNat (0 : Int)) (wr IntKind.i64
  (List.getD x (0 : Nat) (0 : Int) + wr IntKind.i64 (n * List.getD x_1 (0 : Nat) (0 : Int))))) (Int.toNat (1 : Int)) (wr IntKind.i64 (List.getD x_3 (1 : Nat) (0 : Int) + wr
  IntKind.i64 (n * List.getD x_4 (1 : Nat) (0 : Int))))) ∧ ∀ (x_8 : Int), (List.set (List.set [(0 : Int), (0 : Int), (0 : Int), (0 : Int)] (Int.toNat (0 : Int)) (wr IntKind.i64
  (List.getD x (0 : Nat) (0 : Int) + wr IntKind.i64 (n * List.getD x_1 (0 : Nat) (0 : Int))))) (Int.toNat (1 : Int)) (wr IntKind.i64 (List.getD x_3 (1 : Nat) (0 : Int) + wr
  IntKind.i64 (n * List.getD x_4 (1 : Nat) (0 : Int)))))[Int.toNat (2 : Int)]? = some x_8 → ∃ (Q : Bool → Prop), (((0 : Int) ≤ (2 : Int) ∧ (2 : Int) + (1 : Int) ≤ (↑(4 : Nat) : Int))
  ∧ Int.toNat (2 : Int) + (1 : Nat) ≤ List.length (List.set (List.set (List.set [(0 : Int), (0 : Int), (0 : Int), (0 : Int)] (Int.toNat (0 : Int)) (wr IntKind.i64 (List.getD x (0 :
  Nat) (0 : Int) + wr IntKind.i64 (n * List.getD x_1 (0 : Nat) (0 : Int))))) (Int.toNat (1 : Int)) (wr IntKind.i64 (List.getD x_3 (1 : Nat) (0 : Int) + wr IntKind.i64 (n * List.getD
  x_4 (1 : Nat) (0 : Int))))) (Int.toNat (2 : Int)) (wr IntKind.i64 (List.getD x_6 (2 : Nat) (0 : Int) + wr IntKind.i64 (n * List.getD x_7 (2 : Nat) (0 : Int))))) ∧ ∀ (x_9 : Int),
  (List.set (List.set (List.set [(0 : Int), (0 : Int), (0 : Int), (0 : Int)] (Int.toNat (0 : Int)) (wr IntKind.i64 (List.getD x (0 : Nat) (0 : Int) + wr IntKind.i64 (n * List.getD
  x_1 (0 : Nat) (0 : Int))))) (Int.toNat (1 : Int)) (wr IntKind.i64 (List.getD x_3 (1 : Nat) (0 : Int) + wr IntKind.i64 (n * List.getD x_4 (1 : Nat) (0 : Int))))) (Int.toNat (2 :
  Int)) (wr IntKind.i64 (List.getD x_6 (2 : Nat) (0 : Int) + wr IntKind.i64 (n * List.getD x_7 (2 : Nat) (0 : Int)))))[Int.toNat (2 : Int)]? = some x_9 → (decide (x_9 < (-3 : Int)) =
  true → Q true) ∧ (decide (x_9 < (-3 : Int)) = false → ((0 : Int) ≤ (2 : Int) ∧ (2 : Int) + (1 : Int) ≤ (↑(4 : Nat) : Int)) ∧ Int.toNat (2 : Int) + (1 : Nat) ≤ List.length (List.set
  (List.set (List.set [(0 : Int), (0 : Int), (0 : Int), (0 : Int)] (Int.toNat (0 : Int)) (wr IntKind.i64 (List.getD x (0 : Nat) (0 : Int) + wr IntKind.i64 (n * List.getD x_1 (0 :
  Nat) (0 : Int))))) (Int.toNat (1 : Int)) (wr IntKind.i64 (List.getD x_3 (1 : Nat) (0 : Int) + wr IntKind.i64 (n * List.getD x_4 (1 : Nat) (0 : Int))))) (Int.toNat (2 : Int)) (wr
  IntKind.i64 (List.getD x_6 (2 : Nat) (0 : Int) + wr IntKind.i64 (n * List.getD x_7 (2 : Nat) (0 : Int))))) ∧ ∀ (x_10 : Int), (List.set (List.set (List.set [(0 : Int), (0 : Int), (0
  : Int), (0 : Int)] (Int.toNat (0 : Int)) (wr IntKind.i64 (List.getD x (0 : Nat) (0 : Int) + wr IntKind.i64 (n * List.getD x_1 (0 : Nat) (0 : Int))))) (Int.toNat (1 : Int)) (wr
  IntKind.i64 (List.getD x_3 (1 : Nat) (0 : Int) + wr IntKind.i64 (n * List.getD x_4 (1 : Nat) (0 : Int))))) (Int.toNat (2 : Int)) (wr IntKind.i64 (List.getD x_6 (2 : Nat) (0 : Int)
  + wr IntKind.i64 (n * List.getD x_7 (2 : Nat) (0 : Int)))))[Int.toNat (2 : Int)]? = some x_10 → (decide (x_10 > (3 : Int)) = true → Q true) ∧ (decide (x_10 > (3 : Int)) = false → Q
  false))) ∧ (Q true → List.length (List.set (List.set (List.set [(0 : Int), (0 : Int), (0 : Int), (0 : Int)] (Int.toNat (0 : Int)) (wr IntKind.i64 (List.getD x (0 : Nat) (0 : Int) +
  wr IntKind.i64 (n * List.getD x_1 (0 : Nat) (0 : Int))))) (Int.toNat (1 : Int)) (wr IntKind.i64 (List.getD x_3 (1 : Nat) (0 : Int) + wr IntKind.i64 (n * List.getD x_4 (1 : Nat) (0
  : Int))))) (Int.toNat (2 : Int)) (wr IntKind.i64 (List.getD x_6 (2 : Nat) (0 : Int) + wr IntKind.i64 (n * List.getD x_7 (2 : Nat) (0 : Int))))) = (4 : Nat) ∧ (4 : Nat) = (4 : Nat)
  ∧ (List.getD [(0 : Int), (0 : Int), (0 : Int), (0 : Int)] (0 : Nat) (0 : Int) = List.getD d (0 : Nat) (0 : Int) ∧ List.getD [(0 : Int), (0 : Int), (0 : Int), (0 : Int)] (1 : Nat)
  (0 : Int) = List.getD d (1 : Nat) (0 : Int) ∧ List.getD [(0 : Int), (0 : Int), (0 : Int), (0 : Int)] (2 : Nat) (0 : Int) = List.getD d (2 : Nat) (0 : Int) ∧ List.getD [(0 : Int),
  (0 : Int), (0 : Int), (0 : Int)] (3 : Nat) (0 : Int) = List.getD d (3 : Nat) (0 : Int) ∧ True) ∧ false = b ∧ True) ∧ (Q false → (0 : Int) ≤ (0 : Int) ∧ (0 : Int) + (1 : Int) ≤
  (↑(List.length ds) : Int) ∧ ∀ (x_9 : List Int), ds[Int.toNat (0 : Int)]? = some x_9 → (0 : Int) ≤ (1 : Int) ∧ (1 : Int) + (1 : Int) ≤ (↑(List.length ds) : Int) ∧ ∀ (x_10 : List
  Int), ds[Int.toNat (1 : Int)]? = some x_10 → ((0 : Int) ≤ (3 : Int) ∧ (3 : Int) + (1 : Int) ≤ (↑(4 : Nat) : Int)) ∧ (0 : Nat) ≤ Int.toNat (3 : Int) ∧ Int.toNat (3 : Int) + (1 :
  Nat) ≤ List.length (List.set (List.set (List.set [(0 : Int), (0 : Int), (0 : Int), (0 : Int)] (Int.toNat (0 : Int)) (wr IntKind.i64 (List.getD x (0 : Nat) (0 : Int) + wr
  IntKind.i64 (n * List.getD x_1 (0 : Nat) (0 : Int))))) (Int.toNat (1 : Int)) (wr IntKind.i64 (List.getD x_3 (1 : Nat) (0 : Int) + wr IntKind.i64 (n * List.getD x_4 (1 : Nat) (0 :
  Int))))) (Int.toNat (2 : Int)) (wr IntKind.i64 (List.getD x_6 (2 : Nat) (0 : Int) + wr IntKind.i64 (n * List.getD x_7 (2 : Nat) (0 : Int))))) ∧ ∀ (x_11 : Int), (List.set (List.set
  (List.set [(0 : Int), (0 : Int), (0 : Int), (0 : Int)] (Int.toNat (0 : Int)) (wr IntKind.i64 (List.getD x (0 : Nat) (0 : Int) + wr IntKind.i64 (n * List.getD x_1 (0 : Nat) (0 :
  Int))))) (Int.toNat (1 : Int)) (wr IntKind.i64 (List.getD x_3 (1 : Nat) (0 : Int) + wr IntKind.i64 (n * List.getD x_4 (1 : Nat) (0 : Int))))) (Int.toNat (2 : Int)) (wr IntKind.i64
  (List.getD x_6 (2 : Nat) (0 : Int) + wr IntKind.i64 (n * List.getD x_7 (2 : Nat) (0 : Int)))))[Int.toNat (3 : Int)]? = some x_11 → ∃ (Q : Bool → Prop), (((0 : Int) ≤ (3 : Int) ∧ (3
  : Int) + (1 : Int) ≤ (↑(4 : Nat) : Int)) ∧ Int.toNat (3 : Int) + (1 : Nat) ≤ List.length (List.set (List.set (List.set (List.set [(0 : Int), (0 : Int), (0 : Int), (0 : Int)]
  (Int.toNat (0 : Int)) (wr IntKind.i64 (List.getD x (0 : Nat) (0 : Int) + wr IntKind.i64 (n * List.getD x_1 (0 : Nat) (0 : Int))))) (Int.toNat (1 : Int)) (wr IntKind.i64 (List.getD
  x_3 (1 : Nat) (0 : Int) + wr IntKind.i64 (n * List.getD x_4 (1 : Nat) (0 : Int))))) (Int.toNat (2 : Int)) (wr IntKind.i64 (List.getD x_6 (2 : Nat) (0 : Int) + wr IntKind.i64 (n *
  List.getD x_7 (2 : Nat) (0 : Int))))) (Int.toNat (3 : Int)) (wr IntKind.i64 (List.getD x_9 (3 : Nat) (0 : Int) + wr IntKind.i64 (n * List.getD x_10 (3 : Nat) (0 : Int))))) ∧ ∀
  (x_12 : Int), (List.set (List.set (List.set (List.set [(0 : Int), (0 : Int), (0 : Int), (0 : Int)] (Int.toNat (0 : Int)) (wr IntKind.i64 (List.getD x (0 : Nat) (0 : Int) + wr
  IntKind.i64 (n * List.getD x_1 (0 : Nat) (0 : Int))))) (Int.toNat (1 : Int)) (wr IntKind.i64 (List.getD x_3 (1 : Nat) (0 : Int) + wr IntKind.i64 (n * List.getD x_4 (1 : Nat) (0 :
  Int))))) (Int.toNat (2 : Int)) (wr IntKind.i64 (List.getD x_6 (2 : Nat) (0 : Int) + wr IntKind.i64 (n * List.getD x_7 (2 : Nat) (0 : Int))))) (Int.toNat (3 : Int)) (wr IntKind.i64
  (List.getD x_9 (3 : Nat) (0 : Int) + wr IntKind.i64 (n * List.getD x_10 (3 : Nat) (0 : Int)))))[Int.toNat (3 : Int)]? = some x_12 → (decide (x_12 < (-3 : Int)) = true → Q true) ∧
  (decide (x_12 < (-3 : Int)) = false → ((0 : Int) ≤ (3 : Int) ∧ (3 : Int) + (1 : Int) ≤ (↑(4 : Nat) : Int)) ∧ Int.toNat (3 : Int) + (1 : Nat) ≤ List.length (List.set (List.set
  (List.set (List.set [(0 : Int), (0 : Int), (0 : Int), (0 : Int)] (Int.toNat (0 : Int)) (wr IntKind.i64 (List.getD x (0 : Nat) (0 : Int) + wr IntKind.i64 (n * List.getD x_1 (0 :
  Nat) (0 : Int))))) (Int.toNat (1 : Int)) (wr IntKind.i64 (List.getD x_3 (1 : Nat) (0 : Int) + wr IntKind.i64 (n * List.getD x_4 (1 : Nat) (0 : Int))))) (Int.toNat (2 : Int)) (wr
  IntKind.i64 (List.getD x_6 (2 : Nat) (0 : Int) + wr IntKind.i64 (n * List.getD x_7 (2 : Nat) (0 : Int))))) (Int.toNat (3 : Int)) (wr IntKind.i64 (List.getD x_9 (3 : Nat) (0 : Int)
  + wr IntKind.i64 (n * List.getD x_10 (3 : Nat) (0 : Int))))) ∧ ∀ (x_13 : Int), (List.set (List.set (List.set (List.set [(0 : Int), (0 : Int), (0 : Int), (0 : Int)] (Int.toNat (0 :
  Int)) (wr IntKind.i64 (List.getD x (0 : Nat) (0 : Int) + wr IntKind.i64 (n * List.getD x_1 (0 : Nat) (0 : Int))))) (Int.toNat (1 : Int)) (wr IntKind.i64 (List.getD x_3 (1 : Nat) (0
  : Int) + wr IntKind.i64 (n * List.getD x_4 (1 : Nat) (0 : Int))))) (Int.toNat (2 : Int)) (wr IntKind.i64 (List.getD x_6 (2 : Nat) (0 : Int) + wr IntKind.i64 (n * List.getD x_7 (2 :
  Nat) (0 : Int))))) (Int.toNat (3 : Int)) (wr IntKind.i64 (List.getD x_9 (3 : Nat) (0 : Int) + wr IntKind.i64 (n * List.getD x_10 (3 : Nat) (0 : Int)))))[Int.toNat (3 : Int)]? =
  some x_13 → (decide (x_13 > (3 : Int)) = true → Q true) ∧ (decide (x_13 > (3 : Int)) = false → Q false))) ∧ (Q true → List.length (List.set (List.set (List.set (List.set [(0 :
  Int), (0 : Int), (0 : Int), (0 : Int)] (Int.toNat (0 : Int)) (wr IntKind.i64 (List.getD x (0 : Nat) (0 : Int) + wr IntKind.i64 (n * List.getD x_1 (0 : Nat) (0 : Int))))) (Int.toNat
  (1 : Int)) (wr IntKind.i64 (List.getD x_3 (1 : Nat) (0 : Int) + wr IntKind.i64 (n * List.getD x_4 (1 : Nat) (0 : Int))))) (Int.toNat (2 : Int)) (wr IntKind.i64 (List.getD x_6 (2 :
  Nat) (0 : Int) + wr IntKind.i64 (n * List.getD x_7 (2 : Nat) (0 : Int))))) (Int.toNat (3 : Int)) (wr IntKind.i64 (List.getD x_9 (3 : Nat) (0 : Int) + wr IntKind.i64 (n * List.getD
  x_10 (3 : Nat) (0 : Int))))) = (4 : Nat) ∧ (4 : Nat) = (4 : Nat) ∧ (List.getD [(0 : Int), (0 : Int), (0 : Int), (0 : Int)] (0 : Nat) (0 : Int) = List.getD d (0 : Nat) (0 : Int) ∧
  List.getD [(0 : Int), (0 : Int), (0 : Int), (0 : Int)] (1 : Nat) (0 : Int) = List.getD d (1 : Nat) (0 : Int) ∧ List.getD [(0 : Int), (0 : Int), (0 : Int), (0 : Int)] (2 : Nat) (0 :
  Int) = List.getD d (2 : Nat) (0 : Int) ∧ List.getD [(0 : Int), (0 : Int), (0 : Int), (0 : Int)] (3 : Nat) (0 : Int) = List.getD d (3 : Nat) (0 : Int) ∧ True) ∧ false = b ∧ True) ∧
  (Q false → List.length (List.set (List.set (List.set (List.set [(0 : Int), (0 : Int), (0 : Int), (0 : Int)] (Int.toNat (0 : Int)) (wr IntKind.i64 (List.getD x (0 : Nat) (0 : Int) +
  wr IntKind.i64 (n * List.getD x_1 (0 : Nat) (0 : Int))))) (Int.toNat (1 : Int)) (wr IntKind.i64 (List.getD x_3 (1 : Nat) (0 : Int) + wr IntKind.i64 (n * List.getD x_4 (1 : Nat) (0
  : Int))))) (Int.toNat (2 : Int)) (wr IntKind.i64 (List.getD x_6 (2 : Nat) (0 : Int) + wr IntKind.i64 (n * List.getD x_7 (2 : Nat) (0 : Int))))) (Int.toNat (3 : Int)) (wr
  IntKind.i64 (List.getD x_9 (3 : Nat) (0 : Int) + wr IntKind.i64 (n * List.getD x_10 (3 : Nat) (0 : Int))))) = (4 : Nat) ∧ List.length (List.set (List.set (List.set (List.set [(0 :
  Int), (0 : Int), (0 : Int), (0 : Int)] (Int.toNat (0 : Int)) (wr IntKind.i64 (List.getD x (0 : Nat) (0 : Int) + wr IntKind.i64 (n * List.getD x_1 (0 : Nat) (0 : Int))))) (Int.toNat
  (1 : Int)) (wr IntKind.i64 (List.getD x_3 (1 : Nat) (0 : Int) + wr IntKind.i64 (n * List.getD x_4 (1 : Nat) (0 : Int))))) (Int.toNat (2 : Int)) (wr IntKind.i64 (List.getD x_6 (2 :
  Nat) (0 : Int) + wr IntKind.i64 (n * List.getD x_7 (2 : Nat) (0 : Int))))) (Int.toNat (3 : Int)) (wr IntKind.i64 (List.getD x_9 (3 : Nat) (0 : Int) + wr IntKind.i64 (n * List.getD
  x_10 (3 : Nat) (0 : Int))))) = (4 : Nat) ∧ (4 : Nat) = (4 : Nat) ∧ (List.getD [List.getD (List.set (List.set (List.set (List.set [(0 : Int), (0 : Int), (0 : Int), (0 : Int)]
  (Int.toNat (0 : Int)) (wr IntKind.i64 (List.getD x (0 : Nat) (0 : Int) + wr IntKind.i64 (n * List.getD x_1 (0 : Nat) (0 : Int))))) (Int.toNat (1 : Int)) (wr IntKind.i64 (List.getD
  x_3 (1 : Nat) (0 : Int) + wr IntKind.i64 (n * List.getD x_4 (1 : Nat) (0 : Int))))) (Int.toNat (2 : Int)) (wr IntKind.i64 (List.getD x_6 (2 : Nat) (0 : Int) + wr IntKind.i64 (n *
  List.getD x_7 (2 : Nat) (0 : Int))))) (Int.toNat (3 : Int)) (wr IntKind.i64 (List.getD x_9 (3 : Nat) (0 : Int) + wr IntKind.i64 (n * List.getD x_10 (3 : Nat) (0 : Int))))) (0 :
  Nat) (0 : Int), List.getD (List.set (List.set (List.set (List.set [(0 : Int), (0 : Int), (0 : Int), (0 : Int)] (Int.toNat (0 : Int)) (wr IntKind.i64 (List.getD x (0 : Nat) (0 :
  Int) + wr IntKind.i64 (n * List.getD x_1 (0 : Nat) (0 : Int))))) (Int.toNat (1 : Int)) (wr IntKind.i64 (List.getD x_3 (1 : Nat) (0 : Int) + wr IntKind.i64 (n * List.getD x_4 (1 :
  Nat) (0 : Int))))) (Int.toNat (2 : Int)) (wr IntKind.i64 (List.getD x_6 (2 : Nat) (0 : Int) + wr IntKind.i64 (n * List.getD x_7 (2 : Nat) (0 : Int))))) (Int.toNat (3 : Int)) (wr
  IntKind.i64 (List.getD x_9 (3 : Nat) (0 : Int) + wr IntKind.i64 (n * List.getD x_10 (3 : Nat) (0 : Int))))) (1 : Nat) (0 : Int), List.getD (List.set (List.set (List.set (List.set
  [(0 : Int), (0 : Int), (0 : Int), (0 : Int)] (Int.toNat (0 : Int)) (wr IntKind.i64 (List.getD x (0 : Nat) (0 : Int) + wr IntKind.i64 (n * List.getD x_1 (0 : Nat) (0 : Int)))))
  (Int.toNat (1 : Int)) (wr IntKind.i64 (List.getD x_3 (1 : Nat) (0 : Int) + wr IntKind.i64 (n * List.getD x_4 (1 : Nat) (0 : Int))))) (Int.toNat (2 : Int)) (wr IntKind.i64
  (List.getD x_6 (2 : Nat) (0 : Int) + wr IntKind.i64 (n * List.getD x_7 (2 : Nat) (0 : Int))))) (Int.toNat (3 : Int)) (wr IntKind.i64 (List.getD x_9 (3 : Nat) (0 : Int) + wr
  IntKind.i64 (n * List.getD x_10 (3 : Nat) (0 : Int))))) (2 : Nat) (0 : Int), List.getD (List.set (List.set (List.set (List.set [(0 : Int), (0 : Int), (0 : Int), (0 : Int)]
  (Int.toNat (0 : Int)) (wr IntKind.i64 (List.getD x (0 : Nat) (0 : Int) + wr IntKind.i64 (n * List.getD x_1 (0 : Nat) (0 : Int))))) (Int.toNat (1 : Int)) (wr IntKind.i64 (List.getD
  x_3 (1 : Nat) (0 : Int) + wr IntKind.i64 (n * List.getD x_4 (1 : Nat) (0 : Int))))) (Int.toNat (2 : Int)) (wr IntKind.i64 (List.getD x_6 (2 : Nat) (0 : Int) + wr IntKind.i64 (n *
  List.getD x_7 (2 : Nat) (0 : Int))))) (Int.toNat (3 : Int)) (wr IntKind.i64 (List.getD x_9 (3 : Nat) (0 : Int) + wr IntKind.i64 (n * List.getD x_10 (3 : Nat) (0 : Int))))) (3 :
  Nat) (0 : Int)] (0 : Nat) (0 : Int) = List.getD d (0 : Nat) (0 : Int) ∧ List.getD [List.getD (List.set (List.set (List.set (List.set [(0 : Int), (0 : Int), (0 : Int), (0 : Int)]
  (Int.toNat (0 : Int)) (wr IntKind.i64 (List.getD x (0 : Nat) (0 : Int) + wr IntKind.i64 (n * List.getD x_1 (0 : Nat) (0 : Int))))) (Int.toNat (1 : Int)) (wr IntKind.i64 (List.getD
  x_3 (1 : Nat) (0 : Int) + wr IntKind.i64 (n * List.getD x_4 (1 : Nat) (0 : Int))))) (Int.toNat (2 : Int)) (wr IntKind.i64 (List.getD x_6 (2 : Nat) (0 : Int) + wr IntKind.i64 (n *
  List.getD x_7 (2 : Nat) (0 : Int))))) (Int.toNat (3 : Int)) (wr IntKind.i64 (List.getD x_9 (3 : Nat) (0 : Int) + wr IntKind.i64 (n * List.getD x_10 (3 : Nat) (0 : Int))))) (0 :
  Nat) (0 : Int), List.getD (List.set (List.set (List.set (List.set [(0 : Int), (0 : Int), (0 : Int), (0 : Int)] (Int.toNat (0 : Int)) (wr IntKind.i64 (List.getD x (0 : Nat) (0 :
  Int) + wr IntKind.i64 (n * List.getD x_1 (0 : Nat) (0 : Int))))) (Int.toNat (1 : Int)) (wr IntKind.i64 (List.getD x_3 (1 : Nat) (0 : Int) + wr IntKind.i64 (n * List.getD x_4 (1 :
  Nat) (0 : Int))))) (Int.toNat (2 : Int)) (wr IntKind.i64 (List.getD x_6 (2 : Nat) (0 : Int) + wr IntKind.i64 (n * List.getD x_7 (2 : Nat) (0 : Int))))) (Int.toNat (3 : Int)) (wr
  IntKind.i64 (List.getD x_9 (3 : Nat) (0 : Int) + wr IntKind.i64 (n * List.getD x_10 (3 : Nat) (0 : Int))))) (1 : Nat) (0 : Int), List.getD (List.set (List.set (List.set (List.set
  [(0 : Int), (0 : Int), (0 : Int), (0 : Int)] (Int.toNat (0 : Int)) (wr IntKind.i64 (List.getD x (0 : Nat) (0 : Int) + wr IntKind.i64 (n * List.getD x_1 (0 : Nat) (0 : Int)))))
  (Int.toNat (1 : Int)) (wr IntKind.i64 (List.getD x_3 (1 : Nat) (0 : Int) + wr IntKind.i64 (n * List.getD x_4 (1 : Nat) (0 : Int))))) (Int.toNat (2 : Int)) (wr IntKind.i64
  (List.getD x_6 (2 : Nat) (0 : Int) + wr IntKind.i64 (n * List.getD x_7 (2 : Nat) (0 : Int))))) (Int.toNat (3 : Int)) (wr IntKind.i64 (List.getD x_9 (3 : Nat) (0 : Int) + wr
  IntKind.i64 (n * List.getD x_10 (3 : Nat) (0 : Int))))) (2 : Nat) (0 : Int), List.getD (List.set (List.set (List.set (List.set [(0 : Int), (0 : Int), (0 : Int), (0 : Int)]
  (Int.toNat (0 : Int)) (wr IntKind.i64 (List.getD x (0 : Nat) (0 : Int) + wr IntKind.i64 (n * List.getD x_1 (0 : Nat) (0 : Int))))) (Int.toNat (1 : Int)) (wr IntKind.i64 (List.getD
  x_3 (1 : Nat) (0 : Int) + wr IntKind.i64 (n * List.getD x_4 (1 : Nat) (0 : Int))))) (Int.toNat (2 : Int)) (wr IntKind.i64 (List.getD x_6 (2 : Nat) (0 : Int) + wr IntKind.i64 (n *
  List.getD x_7 (2 : Nat) (0 : Int))))) (Int.toNat (3 : Int)) (wr IntKind.i64 (List.getD x_9 (3 : Nat) (0 : Int) + wr IntKind.i64 (n * List.getD x_10 (3 : Nat) (0 : Int))))) (3 :
  Nat) (0 : Int)] (1 : Nat) (0 : Int) = List.getD d (1 : Nat) (0 : Int) ∧ List.getD [List.getD (List.set (List.set (List.set (List.set [(0 : Int), (0 : Int), (0 : Int), (0 : Int)]
  (Int.toNat (0 : Int)) (wr IntKind.i64 (List.getD x (0 : Nat) (0 : Int) + wr IntKind.i64 (n * List.getD x_1 (0 : Nat) (0 : Int))))) (Int.toNat (1 : Int)) (wr IntKind.i64 (List.getD
  x_3 (1 : Nat) (0 : Int) + wr IntKind.i64 (n * List.getD x_4 (1 : Nat) (0 : Int))))) (Int.toNat (2 : Int)) (wr IntKind.i64 (List.getD x_6 (2 : Nat) (0 : Int) + wr IntKind.i64 (n *
  List.getD x_7 (2 : Nat) (0 : Int))))) (Int.toNat (3 : Int)) (wr IntKind.i64 (List.getD x_9 (3 : Nat) (0 : Int) + wr IntKind.i64 (n * List.getD x_10 (3 : Nat) (0 : Int))))) (0 :
  Nat) (0 : Int), List.getD (List.set (List.set (List.set (List.set [(0 : Int), (0 : Int), (0 : Int), (0 : Int)] (Int.toNat (0 : Int)) (wr IntKind.i64 (List.getD x (0 : Nat) (0 :
  Int) + wr IntKind.i64 (n * List.getD x_1 (0 : Nat) (0 : Int))))) (Int.toNat (1 : Int)) (wr IntKind.i64 (List.getD x_3 (1 : Nat) (0 : Int) + wr IntKind.i64 (n * List.getD x_4 (1 :
  Nat) (0 : Int))))) (Int.toNat (2 : Int)) (wr IntKind.i64 (List.getD x_6 (2 : Nat) (0 : Int) + wr IntKind.i64 (n * List.getD x_7 (2 : Nat) (0 : Int))))) (Int.toNat (3 : Int)) (wr
  IntKind.i64 (List.getD x_9 (3 : Nat) (0 : Int) + wr IntKind.i64 (n * List.getD x_10 (3 : Nat) (0 : Int))))) (1 : Nat) (0 : Int), List.getD (List.set (List.set (List.set (List.set
  [(0 : Int), (0 : Int), (0 : Int), (0 : Int)] (Int.toNat (0 : Int)) (wr IntKind.i64 (List.getD x (0 : Nat) (0 : Int) + wr IntKind.i64 (n * List.getD x_1 (0 : Nat) (0 : Int)))))
  (Int.toNat (1 : Int)) (wr IntKind.i64 (List.getD x_3 (1 : Nat) (0 : Int) + wr IntKind.i64 (n * List.getD x_4 (1 : Nat) (0 : Int))))) (Int.toNat (2 : Int)) (wr IntKind.i64
  (List.getD x_6 (2 : Nat) (0 : Int) + wr IntKind.i64 (n * List.getD x_7 (2 : Nat) (0 : Int))))) (Int.toNat (3 : Int)) (wr IntKind.i64 (List.getD x_9 (3 : Nat) (0 : Int) + wr
  IntKind.i64 (n * List.getD x_10 (3 : Nat) (0 : Int))))) (2 : Nat) (0 : Int), List.getD (List.set (List.set (List.set (List.set [(0 : Int), (0 : Int), (0 : Int), (0 : Int)]
  (Int.toNat (0 : Int)) (wr IntKind.i64 (List.getD x (0 : Nat) (0 : Int) + wr IntKind.i64 (n * List.getD x_1 (0 : Nat) (0 : Int))))) (Int.toNat (1 : Int)) (wr IntKind.i64 (List.getD
  x_3 (1 : Nat) (0 : Int) + wr IntKind.i64 (n * List.getD x_4 (1 : Nat) (0 : Int))))) (Int.toNat (2 : Int)) (wr IntKind.i64 (List.getD x_6 (2 : Nat) (0 : Int) + wr IntKind.i64 (n *
  List.getD x_7 (2 : Nat) (0 : Int))))) (Int.toNat (3 : Int)) (wr IntKind.i64 (List.getD x_9 (3 : Nat) (0 : Int) + wr IntKind.i64 (n * List.getD x_10 (3 : Nat) (0 : Int))))) (3 :
  Nat) (0 : Int)] (2 : Nat) (0 : Int) = List.getD d (2 : Nat) (0 : Int) ∧ List.getD [List.getD (List.set (List.set (List.set (List.set [(0 : Int), (0 : Int), (0 : Int), (0 : Int)]
  (Int.toNat (0 : Int)) (wr IntKind.i64 (List.getD x (0 : Nat) (0 : Int) + wr IntKind.i64 (n * List.getD x_1 (0 : Nat) (0 : Int))))) (Int.toNat (1 : Int)) (wr IntKind.i64 (List.getD
  x_3 (1 : Nat) (0 : Int) + wr IntKind.i64 (n * List.getD x_4 (1 : Nat) (0 : Int))))) (Int.toNat (2 : Int)) (wr IntKind.i64 (List.getD x_6 (2 : Nat) (0 : Int) + wr IntKind.i64 (n *
  List.getD x_7 (2 : Nat) (0 : Int))))) (Int.toNat (3 : Int)) (wr IntKind.i64 (List.getD x_9 (3 : Nat) (0 : Int) + wr IntKind.i64 (n * List.getD x_10 (3 : Nat) (0 : Int))))) (0 :
  Nat) (0 : Int), List.getD (List.set (List.set (List.set (List.set [(0 : Int), (0 : Int), (0 : Int), (0 : Int)] (Int.toNat (0 : Int)) (wr IntKind.i64 (List.getD x (0 : Nat) (0 :
  Int) + wr IntKind.i64 (n * List.getD x_1 (0 : Nat) (0 : Int))))) (Int.toNat (1 : Int)) (wr IntKind.i64 (List.getD x_3 (1 : Nat) (0 : Int) + wr IntKind.i64 (n * List.getD x_4 (1 :
  Nat) (0 : Int))))) (Int.toNat (2 : Int)) (wr IntKind.i64 (List.getD x_6 (2 : Nat) (0 : Int) + wr IntKind.i64 (n * List.getD x_7 (2 : Nat) (0 : Int))))) (Int.toNat (3 : Int)) (wr
  IntKind.i64 (List.getD x_9 (3 : Nat) (0 : Int) + wr IntKind.i64 (n * List.getD x_10 (3 : Nat) (0 : Int))))) (1 : Nat) (0 : Int), List.getD (List.set (List.set (List.set (List.set
  [(0 : Int), (0 : Int), (0 : Int), (0 : Int)] (Int.toNat (0 : Int)) (wr IntKind.i64 (List.getD x (0 : Nat) (0 : Int) + wr IntKind.i64 (n * List.getD x_1 (0 : Nat) (0 : Int)))))
  (Int.toNat (1 : Int)) (wr IntKind.i64 (List.getD x_3 (1 : Nat) (0 : Int) + wr IntKind.i64 (n * List.getD x_4 (1 : Nat) (0 : Int))))) (Int.toNat (2 : Int)) (wr IntKind.i64
  (List.getD x_6 (2 : Nat) (0 : Int) + wr IntKind.i64 (n * List.getD x_7 (2 : Nat) (0 : Int))))) (Int.toNat (3 : Int)) (wr IntKind.i64 (List.getD x_9 (3 : Nat) (0 : Int) + wr
  IntKind.i64 (n * List.getD x_10 (3 : Nat) (0 : Int))))) (2 : Nat) (0 : Int), List.getD (List.set (List.set (List.set (List.set [(0 : Int), (0 : Int), (0 : Int), (0 : Int)]
  (Int.toNat (0 : Int)) (wr IntKind.i64 (List.getD x (0 : Nat) (0 : Int) + wr IntKind.i64 (n * List.getD x_1 (0 : Nat) (0 : Int))))) (Int.toNat (1 : Int)) (wr IntKind.i64 (List.getD
  x_3 (1 : Nat) (0 : Int) + wr IntKind.i64 (n * List.getD x_4 (1 : Nat) (0 : Int))))) (Int.toNat (2 : Int)) (wr IntKind.i64 (List.getD x_6 (2 : Nat) (0 : Int) + wr IntKind.i64 (n *
  List.getD x_7 (2 : Nat) (0 : Int))))) (Int.toNat (3 : Int)) (wr IntKind.i64 (List.getD x_9 (3 : Nat) (0 : Int) + wr IntKind.i64 (n * List.getD x_10 (3 : Nat) (0 : Int))))) (3 :
  Nat) (0 : Int)] (3 : Nat) (0 : Int) = List.getD d (3 : Nat) (0 : Int) ∧ True) ∧ true = b ∧ True))))
  ) := by kernel_rfl
--@end
theorem in3_iff (c : Int) : in3 c = true ↔ (-3 ≤ c ∧ c ≤ 3) := by
  unfold in3
  simp only [Bool.not_eq_true', Bool.or_eq_false_iff, decide_eq_false_iff_not]
  omega
theorem q3 (c : Int) {Kt Kf : Prop} (h1 : in3 c = false → Kt) (h2 : in3 c = true → Kf) : ∃ Q : Bool → Prop, ((c < -3 → Q true) ∧ (¬ c < -3 → (c > 3 → Q true) ∧ (¬ c > 3 → Q false))) ∧ (Q true → Kt) ∧ (Q false → Kf) := by
  have hi := in3_iff c
  have hf : ¬ (-3 ≤ c ∧ c ≤ 3) → in3 c = false := fun h => by rw [← Bool.not_eq_true, hi]; exact h
  refine ⟨fun q => q = true ↔ in3 c = false, And.intro (fun h => ⟨fun _ => hf (by omega), fun _ => rfl⟩) (fun h => And.intro (fun h' => ⟨fun _ => hf (by omega), fun _ => rfl⟩) (fun h' => ⟨fun h => (by cases h), fun h => ?_⟩)), fun h => h1 (h.1 rfl), fun h => h2 ?_⟩
  · rw [hi.2 (by omega)] at h; cases h
  · cases hh : in3 c with
    | true => rfl
    | false => exact absurd (h.2 hh) (by simp)
theorem pow_pure (ds : List (List Int)) (n : Int) (h2 : 2 ≤ ds.length) : PureC E 59 [.psl Th.dims ds false, .pptr Th.ints n 0] (optV (cmb n (ds.getD 0 []) (ds.getD 1 []))) := by
  match ds, h2 with
  | a :: b :: r, h2 =>
  refine pure_of_call E_ok (call0 2000) ?_
  unfold optV
  rw [cond_pow]
  have e : ∀ x y, wr IntKind.i64 (x + wr IntKind.i64 (n * y)) = cmb1 n x y := fun _ _ => rfl
  simp only [bif_true, bif_false, bif_nt, bif_tf, bif_ft, beq_iff_eq, bne_iff_ne, beq_eq_false_iff_ne, bne_eq_false_iff_eq, decide_eq_true_eq, decide_eq_false_iff_not, Bool.or_eq_true, Bool.or_eq_false_iff, Bool.not_eq_true', Bool.not_eq_false', Bool.and_eq_true, Bool.and_true, Bool.true_and, Bool.and_eq_false_iff, beq_self_eq_true, mm2_max, mm2_min, ne_eq, and_true, true_and, Bool.true_eq_false, Bool.false_eq_true, false_or, or_false, true_implies, imp_self, Int.ofNat_eq_natCast, not_true_eq_false, not_false_eq_true, Decidable.not_not, List.getElem?_cons_zero, List.getElem?_cons_succ, Option.some.injEq, forall_eq', forall_eq, List.set_cons_zero, List.set_cons_succ, List.length_cons, List.length_nil, List.getD_cons_zero, List.getD_cons_succ, tn0, tn1, tn2, tn3, Int.le_refl, Nat.le_refl, Nat.reduceAdd, Int.reduceAdd, Int.reduceLE, Nat.reduceLeDiff, cn4, cn16, e]
  unfold cmb
  generalize cmb1 n (a.getD 0 0) (b.getD 0 0) = c0
  generalize cmb1 n (a.getD 1 0) (b.getD 1 0) = c1
  generalize cmb1 n (a.getD 2 0) (b.getD 2 0) = c2
  generalize cmb1 n (a.getD 3 0) (b.getD 3 0) = c3
  simp only [List.length_cons] at h2
  repeat' (first | omega | (refine q3 _ (fun h => ?_) (fun h => ?_)) | (refine And.intro ?_ ?_))
  all_goals simp [*]
--@cond rule1 | 41 | F0 | 400 | (ds : List (List Int)) | [.psl Th.dims ds false] | (d : List Int) (b : Bool) | .tup [dimV d, .bool false b]
theorem cond_rule1 (ds : List (List Int)) (d : List Int) (b : Bool) : callF E F0 (vc E F0 400) 41 [.psl Th.dims ds false] hp0 0 (fun r => ret E (patch hp0 0 r) r.v (.tup [dimV d, .bool false b])) = (
  (0 : Int) ≤ (0 : Int) ∧ (0 : Int) + (1 : Int) ≤ (↑(List.length ds) : Int) ∧ ∀ (x : List Int), ds[Int.toNat (0 : Int)]? = some x → (0 : Int) ≤ (0 : Int) ∧ (0 : Int) + (1 : Int) ≤
  (↑(List.length ds) : Int) ∧ ∀ (x_1 : List Int), ds[Int.toNat (0 : Int)]? = some x_1 → (0 : Int) ≤ (1 : Int) ∧ (1 : Int) + (1 : Int) ≤ (↑(List.length ds) : Int) ∧ ∀ (x_2 : List
  Int), ds[Int.toNat (1 : Int)]? = some x_2 → ((List.getD x_1 (0 : Nat) (0 : Int) == List.getD x_2 (0 : Nat) (0 : Int) && (List.getD x_1 (1 : Nat) (0 : Int) == List.getD x_2 (1 :
  Nat) (0 : Int) && (List.getD x_1 (2 : Nat) (0 : Int) == List.getD x_2 (2 : Nat) (0 : Int) && (List.getD x_1 (3 : Nat) (0 : Int) == List.getD x_2 (3 : Nat) (0 : Int) && true)))) =
  true → (4 : Nat) = (4 : Nat) ∧ (4 : Nat) = (4 : Nat) ∧ (List.getD [List.getD x (0 : Nat) (0 : Int), List.getD x (1 : Nat) (0 : Int), List.getD x (2 : Nat) (0 : Int), List.getD x (3
  : Nat) (0 : Int)] (0 : Nat) (0 : Int) = List.getD d (0 : Nat) (0 : Int) ∧ List.getD [List.getD x (0 : Nat) (0 : Int), List.getD x (1 : Nat) (0 : Int), List.getD x (2 : Nat) (0 :
  Int), List.getD x (3 : Nat) (0 : Int)] (1 : Nat) (0 : Int) = List.getD d (1 : Nat) (0 : Int) ∧ List.getD [List.getD x (0 : Nat) (0 : Int), List.getD x (1 : Nat) (0 : Int),
  List.getD x (2 : Nat) (0 : Int), List.getD x (3 : Nat) (0 : Int)] (2 : Nat) (0 : Int) = List.getD d (2 : Nat) (0 : Int) ∧ List.getD [List.getD x (0 : Nat) (0 : Int), List.getD x (1
  : Nat) (0 : Int), List.getD x (2 : Nat) (0 : Int), List.getD x (3 : Nat) (0 : Int)] (3 : Nat) (0 : Int) = List.getD d (3 : Nat) (0 : Int) ∧ True) ∧ true = b ∧ True) ∧ ((List.getD
  x_1 (0 : Nat) (0 : Int) == List.getD x_2 (0 : Nat) (0 : Int) && (List.getD x_1 (1 : Nat) (0 : Int) == List.getD x_2 (1 : Nat) (0 : Int) && (List.getD x_1 (2 : Nat) (0 : Int) ==
  List.getD x_2 (2 : Nat) (0 : Int) && (List.getD x_1 (3 : Nat) (0 : Int) == List.getD x_2 (3 : Nat) (0 : Int) && true)))) = false → (4 : Nat) = (4 : Nat) ∧ (4 : Nat) = (4 : Nat) ∧
  (List.getD [List.getD x (0 : Nat) (0 : Int), List.getD x (1 : Nat) (0 : Int), List.getD x (2 : Nat) (0 : Int), List.getD x (3 : Nat) (0 : Int)] (0 : Nat) (0 : Int) = List.getD d (0
  : Nat) (0 : Int) ∧ List.getD [List.getD x (0 : Nat) (0 : Int), List.getD x (1 : Nat) (0 : Int), List.getD x (2 : Nat) (0 : Int), List.getD x (3 : Nat) (0 : Int)] (1 : Nat) (0 :
  Int) = List.getD d (1 : Nat) (0 : Int) ∧ List.getD [List.getD x (0 : Nat) (0 : Int), List.getD x (1 : Nat) (0 : Int), List.getD x (2 : Nat) (0 : Int), List.getD x (3 : Nat) (0 :
  Int)] (2 : Nat) (0 : Int) = List.getD d (2 : Nat) (0 : Int) ∧ List.getD [List.getD x (0 : Nat) (0 : Int), List.getD x (1 : Nat) (0 : Int), List.getD x (2 : Nat) (0 : Int),
  List.getD x (3 : Nat) (0 : Int)] (3 : Nat) (0 : Int) = List.getD d (3 : Nat) (0 : Int) ∧ True) ∧ false = b ∧ True)
  ) := by kernel_rfl
--@end
def eq4 (a b : List Int) : Bool := a.getD 0 0 == b.getD 0 0 && (a.getD 1 0 == b.getD 1 0 && (a.getD 2 0 == b.getD 2 0 && a.getD 3 0 == b.getD 3 0))
theorem eq4_t {a b : List Int} (h : a.getD 0 0 = b.getD 0 0 ∧ a.getD 1 0 = b.getD 1 0 ∧ a.getD 2 0 = b.getD 2 0 ∧ a.getD 3 0 = b.getD 3 0) : eq4 a b = true := by
  unfold eq4
  simp only [Bool.and_eq_true, beq_iff_eq]; exact h
theorem eq4_f {a b : List Int} (h : ¬ a.getD 0 0 = b.getD 0 0 ∨ ¬ a.getD 1 0 = b.getD 1 0 ∨ ¬ a.getD 2 0 = b.getD 2 0 ∨ ¬ a.getD 3 0 = b.getD 3 0) : eq4 a b = false := by
  rw [Bool.eq_false_iff]
  intro h'
  unfold eq4 at h'
  simp only [Bool.and_eq_true, beq_iff_eq] at h'
  omega
theorem eq4_iff {a b : List Int} (ha : Is4 a) (hb : Is4 b) : eq4 a b = decide (a = b) := by
  obtain ⟨a0, a1, a2, a3, rfl⟩ := ha
  obtain ⟨b0, b1, b2, b3, rfl⟩ := hb
  rw [Bool.eq_iff_iff, decide_eq_true_eq]
  unfold eq4
  simp
theorem rule1_pure (ds : List (List Int)) (h2 : 2 ≤ ds.length) : PureC E 41 [.psl Th.dims ds false] (.tup [dimV (ds.getD 0 []), .bool false (eq4 (ds.getD 0 []) (ds.getD 1 []))]) := by
  match ds, h2 with
  | a :: b :: r, h2 =>
  refine pure_of_call E_ok (call0 400) ?_
  rw [cond_rule1]
  simp only [bif_true, bif_false, bif_nt, bif_tf, bif_ft, beq_iff_eq, bne_iff_ne, beq_eq_false_iff_ne, bne_eq_false_iff_eq, decide_eq_true_eq, decide_eq_false_iff_not, Bool.or_eq_true, Bool.or_eq_false_iff, Bool.not_eq_true', Bool.not_eq_false', Bool.and_eq_true, Bool.and_true, Bool.true_and, Bool.and_eq_false_iff, beq_self_eq_true, mm2_max, mm2_min, ne_eq, and_true, true_and, Bool.true_eq_false, Bool.false_eq_true, false_or, or_false, true_implies, imp_self, Int.ofNat_eq_natCast, not_true_eq_false, not_false_eq_true, Decidable.not_not, List.getElem?_cons_zero, List.getElem?_cons_succ, Option.some.injEq, forall_eq', forall_eq, List.set_cons_zero, List.set_cons_succ, List.length_cons, List.length_nil, List.getD_cons_zero, List.getD_cons_succ, tn0, tn1, tn2, tn3, Int.le_refl, Nat.le_refl, Nat.reduceAdd, Int.reduceAdd, Int.reduceLE, Nat.reduceLeDiff, cn4, cn16]
  simp only [List.length_cons] at h2
  refine ⟨by omega, by omega, by omega, fun h => ?_, fun h => ?_⟩
  · exact (eq4_t h).symm
  · exact (eq4_f h).symm
--@cond rule2 | 42 | F0 | 400 | (ds : List (List Int)) | [.psl Th.dims ds false] | (d : List Int) (b : Bool) | .tup [dimV d, .bool false b]
theorem cond_rule2 (ds : List (List Int)) (d : List Int) (b : Bool) : callF E F0 (vc E F0 400) 42 [.psl Th.dims ds false] hp0 0 (fun r => ret E (patch hp0 0 r) r.v (.tup [dimV d, .bool false b])) = (
  (0 : Int) ≤ (2 : Int) ∧ (2 : Int) + (1 : Int) ≤ (↑(List.length ds) : Int) ∧ ∀ (x : List Int), ds[Int.toNat (2 : Int)]? = some x → (0 : Int) ≤ (0 : Int) ∧ (0 : Int) + (1 : Int) ≤
  (↑(List.length ds) : Int) ∧ ∀ (x_1 : List Int), ds[Int.toNat (0 : Int)]? = some x_1 → (0 : Int) ≤ (1 : Int) ∧ (1 : Int) + (1 : Int) ≤ (↑(List.length ds) : Int) ∧ ∀ (x_2 : List
  Int), ds[Int.toNat (1 : Int)]? = some x_2 → ((List.getD x_1 (0 : Nat) (0 : Int) == List.getD x_2 (0 : Nat) (0 : Int) && (List.getD x_1 (1 : Nat) (0 : Int) == List.getD x_2 (1 :
  Nat) (0 : Int) && (List.getD x_1 (2 : Nat) (0 : Int) == List.getD x_2 (2 : Nat) (0 : Int) && (List.getD x_1 (3 : Nat) (0 : Int) == List.getD x_2 (3 : Nat) (0 : Int) && true)))) =
  true → (0 : Int) ≤ (2 : Int) ∧ (2 : Int) + (1 : Int) ≤ (↑(List.length ds) : Int) ∧ ∀ (x_3 : List Int), ds[Int.toNat (2 : Int)]? = some x_3 → (0 : Int) ≤ (3 : Int) ∧ (3 : Int) + (1
  : Int) ≤ (↑(List.length ds) : Int) ∧ ∀ (x_4 : List Int), ds[Int.toNat (3 : Int)]? = some x_4 → ((List.getD x_3 (0 : Nat) (0 : Int) == List.getD x_4 (0 : Nat) (0 : Int) &&
  (List.getD x_3 (1 : Nat) (0 : Int) == List.getD x_4 (1 : Nat) (0 : Int) && (List.getD x_3 (2 : Nat) (0 : Int) == List.getD x_4 (2 : Nat) (0 : Int) && (List.getD x_3 (3 : Nat) (0 :
  Int) == List.getD x_4 (3 : Nat) (0 : Int) && true)))) = true → (4 : Nat) = (4 : Nat) ∧ (4 : Nat) = (4 : Nat) ∧ (List.getD [List.getD x (0 : Nat) (0 : Int), List.getD x (1 : Nat) (0
  : Int), List.getD x (2 : Nat) (0 : Int), List.getD x (3 : Nat) (0 : Int)] (0 : Nat) (0 : Int) = List.getD d (0 : Nat) (0 : Int) ∧ List.getD [List.getD x (0 : Nat) (0 : Int),
  List.getD x (1 : Nat) (0 : Int), List.getD x (2 : Nat) (0 : Int), List.getD x (3 : Nat) (0 : Int)] (1 : Nat) (0 : Int) = List.getD d (1 : Nat) (0 : Int) ∧ List.getD [List.getD x (0
  : Nat) (0 : Int), List.getD x (1 : Nat) (0 : Int), List.getD x (2 : Nat) (0 : Int), List.getD x (3 : Nat) (0 : Int)] (2 : Nat) (0 : Int) = List.getD d (2 : Nat) (0 : Int) ∧
  List.getD [List.getD x (0 : Nat) (0 : Int), List.getD x (1 : Nat) (0 : Int), List.getD x (2 : Nat) (0 : Int), List.getD x (3 : Nat) (0 : Int)] (3 : Nat) (0 : Int) = List.getD d (3
  : Nat) (0 : Int) ∧ True) ∧ true = b ∧ True) ∧ ((List.getD x_3 (0 : Nat) (0 : Int) == List.getD x_4 (0 : Nat) (0 : Int) && (List.getD x_3 (1 : Nat) (0 : Int) == List.getD x_4 (1 :
  Nat) (0 : Int) && (List.getD x_3 (2 : Nat) (0 : Int) == List.getD x_4 (2 : Nat) (0 : Int) && (List.getD x_3 (3 : Nat) (0 : Int) == List.getD x_4 (3 : Nat) (0 : Int) && true)))) =
  false → (4 : Nat) = (4 : Nat) ∧ (4 : Nat) = (4 : Nat) ∧ (List.getD [List.getD x (0 : Nat) (0 : Int), List.getD x (1 : Nat) (0 : Int), List.getD x (2 : Nat) (0 : Int), List.getD x
  (3 : Nat) (0 : Int)] (0 : Nat) (0 : Int) = List.getD d (0 : Nat) (0 : Int) ∧ List.getD [List.getD x (0 : Nat) (0 : Int), List.getD x (1 : Nat) (0 : Int), List.getD x (2 : Nat) (0 :
  Int), List.getD x (3 : Nat) (0 : Int)] (1 : Nat) (0 : Int) = List.getD d (1 : Nat) (0 : Int) ∧ List.getD [List.getD x (0 : Nat) (0 : Int), List.getD x (1 : Nat) (0 : Int),
  List.getD x (2 : Nat) (0 : Int), List.getD x (3 : Nat) (0 : Int)] (2 : Nat) (0 : Int) = List.getD d (2 : Nat) (0 : Int) ∧ List.getD [List.getD x (0 : Nat) (0 : Int), List.getD x (1
  : Nat) (0 : Int), List.getD x (2 : Nat) (0 : Int), List.getD x (3 : Nat) (0 : Int)] (3 : Nat) (0 : Int) = List.getD d (3 : Nat) (0 : Int) ∧ True) ∧ false = b ∧ True)) ∧ ((List.getD
  x_1 (0 : Nat) (0 : Int) == List.getD x_2 (0 : Nat) (0 : Int) && (List.getD x_1 (1 : Nat) (0 : Int) == List.getD x_2 (1 : Nat) (0 : Int) && (List.getD x_1 (2 : Nat) (0 : Int) ==
  List.getD x_2 (2 : Nat) (0 : Int) && (List.getD x_1 (3 : Nat) (0 : Int) == List.getD x_2 (3 : Nat) (0 : Int) && true)))) = false → (4 : Nat) = (4 : Nat) ∧ (4 : Nat) = (4 : Nat) ∧
  (List.getD [List.getD x (0 : Nat) (0 : Int), List.getD x (1 : Nat) (0 : Int), List.getD x (2 : Nat) (0 : Int), List.getD x (3 : Nat) (0 : Int)] (0 : Nat) (0 : Int) = List.getD d (0
  : Nat) (0 : Int) ∧ List.getD [List.getD x (0 : Nat) (0 : Int), List.getD x (1 : Nat) (0 : Int), List.getD x (2 : Nat) (0 : Int), List.getD x (3 : Nat) (0 : Int)] (1 : Nat) (0 :
  Int) = List.getD d (1 : Nat) (0 : Int) ∧ List.getD [List.getD x (0 : Nat) (0 : Int), List.getD x (1 : Nat) (0 : Int), List.getD x (2 : Nat) (0 : Int), List.getD x (3 : Nat) (0 :
  Int)] (2 : Nat) (0 : Int) = List.getD d (2 : Nat) (0 : Int) ∧ List.getD [List.getD x (0 : Nat) (0 : Int), List.getD x (1 : Nat) (0 : Int), List.getD x (2 : Nat) (0 : Int),
  List.getD x (3 : Nat) (0 : Int)] (3 : Nat) (0 : Int) = List.getD d (3 : Nat) (0 : Int) ∧ True) ∧ false = b ∧ True)
  ) := by kernel_rfl
--@end
theorem rule2_pure (ds : List (List Int)) (h2 : 4 ≤ ds.length) : PureC E 42 [.psl Th.dims ds false] (.tup [dimV (ds.getD 2 []), .bool false (eq4 (ds.getD 0 []) (ds.getD 1 []) && eq4 (ds.getD 2 []) (ds.getD 3 []))]) := by
  match ds, h2 with
  | a :: b :: c :: d :: r, h2 =>
  refine pure_of_call E_ok (call0 400) ?_
  rw [cond_rule2]
  simp only [bif_true, bif_false, bif_nt, bif_tf, bif_ft, beq_iff_eq, bne_iff_ne, beq_eq_false_iff_ne, bne_eq_false_iff_eq, decide_eq_true_eq, decide_eq_false_iff_not, Bool.or_eq_true, Bool.or_eq_false_iff, Bool.not_eq_true', Bool.not_eq_false', Bool.and_eq_true, Bool.and_true, Bool.true_and, Bool.and_eq_false_iff, beq_self_eq_true, mm2_max, mm2_min, ne_eq, and_true, true_and, Bool.true_eq_false, Bool.false_eq_true, false_or, or_false, true_implies, imp_self, Int.ofNat_eq_natCast, not_true_eq_false, not_false_eq_true, Decidable.not_not, List.getElem?_cons_zero, List.getElem?_cons_succ, Option.some.injEq, forall_eq', forall_eq, List.set_cons_zero, List.set_cons_succ, List.length_cons, List.length_nil, List.getD_cons_zero, List.getD_cons_succ, tn0, tn1, tn2, tn3, Int.le_refl, Nat.le_refl, Nat.reduceAdd, Int.reduceAdd, Int.reduceLE, Nat.reduceLeDiff, cn4, cn16]
  simp only [List.length_cons] at h2
  refine ⟨by omega, by omega, by omega, fun h => ⟨by omega, by omega, fun h' => ?_, fun h' => ?_⟩, fun h => ?_⟩
  · rw [eq4_t h, eq4_t h']; rfl
  · rw [eq4_f h', Bool.and_false]
  · rw [eq4_f h, Bool.false_and]
end Go.Proofs.YtpllflefaccmkaaDoor

/- Chapter 17: units of expressions: the program's unit. -/
namespace Go.Proofs.YtpllflefaccmkaaDoor
open Go
set_option linter.unusedVariables false
set_option linter.unusedSimpArgs false
set_option maxRecDepth 100000
open Classical in
noncomputable def dRul : Dc E Unit where
  dec v := if v = rulesV then some () else none
  enc _ := rulesV
  ok v a h := by
    split at h
    · rename_i e; subst e; exact ⟨rfl, rfl, fun _ _ _ h => h⟩
    · cases h
noncomputable def Sunit (m : Nat) : Sum thy := fun args h i k => match args with
  | [r, xv] => r = rulesV ∧ (match (dR .exprs).dec xv with | some x => ((x : Ex).sz < m ∧ formX x = true) ∧ ∀ o, o = unitX x → k (quiet [] (optV o)) | none => False)
  | _ => False
theorem Sunit_ok {m : Nat} (hp : ∀ x : Ex, x.sz < m → formX x = true → PureC E 21 [rulesV, exA x] (optV (unitX x))) : SumOk E 21 (Sunit m) := by
  refine ⟨good_of (f := 21) rfl, fun args h i k hD hk => ?_⟩
  unfold Sunit at hk
  split at hk
  · rename_i r xv
    obtain ⟨rfl, hk⟩ := hk
    split at hk
    · rename_i x hx
      obtain ⟨⟨h1, h2⟩, hk⟩ := hk
      have hd : (DcL.cons dRul (dA1 (dR .exprs))).dec [rulesV, xv] = some ((), x, ()) := by
        have h0 : (dRul).dec rulesV = some () := by unfold dRul; simp
        simp only [DcL.cons, dA1, DcL.nil, h0, hx]
      have hpure : PureC E 21 [rulesV, xv] (optV (unitX x)) := PureC.of_dec hd (hp x h1 h2)
      have hn := (DcL.cons dRul (dA1 (dR .exprs))).ok _ _ hd
      exact ⟨_, hk _ rfl, hpure.tri E_ok hn.1 h i⟩
    · exact hk.elim
  · exact hk.elim
noncomputable def Spow : Sum thy := sumFY E (fun _ => none) 10 (dA2 dDims dPow) (fun x => 2 ≤ x.1.length) (fun x => cmb x.2.1 (x.1.getD 0 []) (x.1.getD 1 [])) optV
theorem Spow_ok : SumOk E 59 Spow := sumFY_ok E_ok (good_of (f := 59) rfl) fun x h => pow_pure _ _ h
def prV (p : List Int × Bool) : SV thy := .tup [dimV p.1, .bool false p.2]
noncomputable def Srul1 : Sum thy := sumFY E (fun _ => none) 10 (dA1 dDims) (fun x => 2 ≤ x.1.length) (fun x => (x.1.getD 0 [], eq4 (x.1.getD 0 []) (x.1.getD 1 []))) prV
theorem Srul1_ok : SumOk E 41 Srul1 := sumFY_ok E_ok (good_of (f := 41) rfl) fun x h => rule1_pure _ h
noncomputable def Srul2 : Sum thy := sumFY E (fun _ => none) 10 (dA1 dDims) (fun x => 4 ≤ x.1.length) (fun x => (x.1.getD 2 [], eq4 (x.1.getD 0 []) (x.1.getD 1 []) && eq4 (x.1.getD 2 []) (x.1.getD 3 []))) prV
theorem Srul2_ok : SumOk E 42 Srul2 := sumFY_ok E_ok (good_of (f := 42) rfl) fun x h => rule2_pure _ h
structure UnX where
  k : Nat
  r : Nat
  D : List (List Int)
noncomputable def Aunit : Fr thy → Hp thy → Nat → Ann2 thy := fun T h i => { X := UnX, fr := fun s x => [(0, T 0), (3, T 3), (4, T 4), (6, match s with | false => .val (.slice none 0 0) | true => .sl i 0 x.D.length 4 none), (24, T 24), (25, T 25), (26, .int false .i64 x.k)], bl := fun s x => match s with | false => blkP h (T 3) ++ blkP h (T 4) | true => (i, .rows Th.dims x.D 0) :: (blkP h (T 3) ++ blkP h (T 4)), src := fun s => match s with | false => [] | true => [(i, 6)], md := [bOf (T 4)], ih := i + 1, M := i + 40, meas := fun s x => x.r }
noncomputable def Funit0 : Fns thy := addS (addS (addS F0 59 Spow) 41 Srul1) 42 Srul2
theorem Funit0_ok : FnsOk E Funit0 := addS_ok (addS_ok (addS_ok F0_ok Spow_ok) Srul1_ok) Srul2_ok
noncomputable def Funit (m : Nat) : Fns thy := addL2 (addS Funit0 21 (Sunit m)) 21 8 Aunit E
--@cond unit | 21 | Funit0>(Funit m) | 800 | (m : Nat) (x : Ex) | [rulesV, exA x] | (o : Option (List Int)) | optV o
theorem cond_unit (m : Nat) (x : Ex) (o : Option (List Int)) : callF E Funit0 (vc E (Funit m) 800) 21 [rulesV, exA x] hp0 0 (fun r => ret E (patch hp0 0 r) r.v (optV o)) = (
  ((Ex.op x == (1 : Int)) = true → (4 : Nat) = (4 : Nat) ∧ (4 : Nat) = (4 : Nat) ∧ (Ex.d0 x = List.getD (Option.getD o [(0 : Int), (0 : Int), (0 : Int), (0 : Int)]) (0 : Nat) (0 :
  Int) ∧ Ex.d1 x = List.getD (Option.getD o [(0 : Int), (0 : Int), (0 : Int), (0 : Int)]) (1 : Nat) (0 : Int) ∧ Ex.d2 x = List.getD (Option.getD o [(0 : Int), (0 : Int), (0 : Int),
  (0 : Int)]) (2 : Nat) (0 : Int) ∧ Ex.d3 x = List.getD (Option.getD o [(0 : Int), (0 : Int), (0 : Int), (0 : Int)]) (3 : Nat) (0 : Int) ∧ True) ∧ true = Option.isSome o ∧ True) ∧
  ((Ex.op x == (1 : Int)) = false → ((Ex.op x == (2 : Int)) = true → (0 : Int) ≤ Ex.n x ∧ Ex.n x + (1 : Int) ≤ (↑(16 : Nat) : Int) ∧ ∀ (x_1 : List Int), [[(0 : Int), (0 : Int), (0 :
  Int), (0 : Int)], [(0 : Int), (0 : Int), (0 : Int), (0 : Int)], [(0 : Int), (0 : Int), (0 : Int), (0 : Int)], [(0 : Int), (0 : Int), (0 : Int), (0 : Int)], [(0 : Int), (0 : Int),
  (0 : Int), (0 : Int)], [(0 : Int), (0 : Int), (0 : Int), (1 : Int)], [(0 : Int), (0 : Int), (1 : Int), (0 : Int)], [(0 : Int), (1 : Int), (0 : Int), (0 : Int)], [(0 : Int), (1 :
  Int), (0 : Int), (0 : Int)], [(0 : Int), (0 : Int), (0 : Int), (0 : Int)], [(1 : Int), (0 : Int), (0 : Int), (0 : Int)], [(1 : Int), (0 : Int), (0 : Int), (0 : Int)], [(0 : Int),
  (0 : Int), (0 : Int), (0 : Int)], [(0 : Int), (0 : Int), (0 : Int), (0 : Int)], [(0 : Int), (0 : Int), (0 : Int), (0 : Int)], [(0 : Int), (0 : Int), (0 : Int), (0 :
  Int)]][Int.toNat (Ex.n x)]? = some x_1 → (4 : Nat) = (4 : Nat) ∧ (4 : Nat) = (4 : Nat) ∧ (List.getD x_1 (0 : Nat) (0 : Int) = List.getD (Option.getD o [(0 : Int), (0 : Int), (0 :
  Int), (0 : Int)]) (0 : Nat) (0 : Int) ∧ List.getD x_1 (1 : Nat) (0 : Int) = List.getD (Option.getD o [(0 : Int), (0 : Int), (0 : Int), (0 : Int)]) (1 : Nat) (0 : Int) ∧ List.getD
  x_1 (2 : Nat) (0 : Int) = List.getD (Option.getD o [(0 : Int), (0 : Int), (0 : Int), (0 : Int)]) (2 : Nat) (0 : Int) ∧ List.getD x_1 (3 : Nat) (0 : Int) = List.getD (Option.getD o
  [(0 : Int), (0 : Int), (0 : Int), (0 : Int)]) (3 : Nat) (0 : Int) ∧ True) ∧ true = Option.isSome o ∧ True) ∧ ((Ex.op x == (2 : Int)) = false → ∃ (R : Bool → UnX → Prop), ((∃ (x :
  UnX), R true x ∧ true = true ∧ False) ∨ ∃ (x_1 : UnX), R false x_1 ∧ true = true ∧ ((rulesEs = rulesEs ∧ true = true) ∧ (0 : Nat) = (0 : Nat) ∧ (0 : Nat) = (0 : Nat) ∧ Value.slice
  none (0 : Nat) (0 : Nat) = Value.slice none (0 : Nat) (0 : Nat) ∧ (Ex.l x = Ex.l x ∧ (false = true → false = true)) ∧ (↑(List.length (Ex.l x)) : Int) = (↑(List.length (Ex.l x)) :
  Int) ∧ (0 : Int) = (↑(UnX.k x_1) : Int) ∧ True) ∧ (Ex.op x = Ex.op x ∧ Ex.n x = Ex.n x ∧ Ex.d0 x = Ex.d0 x ∧ Ex.d1 x = Ex.d1 x ∧ Ex.d2 x = Ex.d2 x ∧ Ex.d3 x = Ex.d3 x ∧ (Ex.l x =
  Ex.l x ∧ (false = true → false = true)) ∧ True) ∧ ([(0 : Int), (0 : Int), (0 : Int), (0 : Int)] = [(0 : Int), (0 : Int), (0 : Int), (0 : Int)] ∧ (0 : Nat) = (0 : Nat)) ∧ True) ∧ (∀
  (x_1 : UnX), R true x_1 → (decide ((↑(UnX.k x_1) : Int) < (↑(List.length (Ex.l x)) : Int)) = true → (0 : Int) ≤ (↑(UnX.k x_1) : Int) ∧ (↑(UnX.k x_1) : Int) + (1 : Int) ≤
  (↑(List.length (Ex.l x)) : Int) ∧ ∀ (x_2 : Ex), (Ex.l x)[Int.toNat (↑(UnX.k x_1) : Int)]? = some x_2 → SV.pmap rulesEs = rulesV ∧ (Ex.sz (Ex.mk (Ex.op x_2) (Ex.n x_2) (Ex.d0 x_2)
  (Ex.d1 x_2) (Ex.d2 x_2) (Ex.d3 x_2) (Ex.l x_2)) + (1 : Nat) ≤ m ∧ formX (Ex.mk (Ex.op x_2) (Ex.n x_2) (Ex.d0 x_2) (Ex.d1 x_2) (Ex.d2 x_2) (Ex.d3 x_2) (Ex.l x_2)) = true) ∧ ∀ (o_1 :
  Option (List Int)), o_1 = unitX (Ex.mk (Ex.op x_2) (Ex.n x_2) (Ex.d0 x_2) (Ex.d1 x_2) (Ex.d2 x_2) (Ex.d3 x_2) (Ex.l x_2)) → (4 : Nat) = (4 : Nat) ∧ ((!Option.isSome o_1) = true →
  (4 : Nat) = (4 : Nat) ∧ (4 : Nat) = (4 : Nat) ∧ ((0 : Int) = List.getD (Option.getD o [(0 : Int), (0 : Int), (0 : Int), (0 : Int)]) (0 : Nat) (0 : Int) ∧ (0 : Int) = List.getD
  (Option.getD o [(0 : Int), (0 : Int), (0 : Int), (0 : Int)]) (1 : Nat) (0 : Int) ∧ (0 : Int) = List.getD (Option.getD o [(0 : Int), (0 : Int), (0 : Int), (0 : Int)]) (2 : Nat) (0 :
  Int) ∧ (0 : Int) = List.getD (Option.getD o [(0 : Int), (0 : Int), (0 : Int), (0 : Int)]) (3 : Nat) (0 : Int) ∧ True) ∧ false = Option.isSome o ∧ True) ∧ ((!Option.isSome o_1) =
  false → (4 : Nat) = (4 : Nat) ∧ (List.length (UnX.D x_1) ≤ List.length (UnX.D x_1) ∧ (0 : Nat) ≤ List.length (UnX.D x_1) ∧ (List.length (UnX.D x_1) + (1 : Nat)) * (32 : Nat) ≤
  (140737488355328 : Nat)) ∧ ((∃ (x' : UnX), R true x' ∧ x'.2 + (1 : Nat) ≤ x_1.2 ∧ true = true ∧ ((rulesEs = rulesEs ∧ true = true) ∧ (0 : Nat) = (0 : Nat) ∧ (0 : Nat) = (0 : Nat) ∧
  ((0 : Nat) = (0 : Nat) ∧ List.length (UnX.D x_1) + (1 : Nat) = List.length (UnX.D x') ∧ True) ∧ (Ex.l x = Ex.l x ∧ (false = true → false = true)) ∧ (↑(List.length (Ex.l x)) : Int)
  = (↑(List.length (Ex.l x)) : Int) ∧ wr IntKind.i64 ((↑(UnX.k x_1) : Int) + (1 : Int)) = (↑(UnX.k x') : Int) ∧ True) ∧ (List.take (List.length (UnX.D x_1)) (UnX.D x_1) ++
  [[List.getD (Option.getD o_1 [(0 : Int), (0 : Int), (0 : Int), (0 : Int)]) (0 : Nat) (0 : Int), List.getD (Option.getD o_1 [(0 : Int), (0 : Int), (0 : Int), (0 : Int)]) (1 : Nat)
  (0 : Int), List.getD (Option.getD o_1 [(0 : Int), (0 : Int), (0 : Int), (0 : Int)]) (2 : Nat) (0 : Int), List.getD (Option.getD o_1 [(0 : Int), (0 : Int), (0 : Int), (0 : Int)]) (3
  : Nat) (0 : Int)]] = UnX.D x' ∧ (0 : Nat) = (0 : Nat)) ∧ (Ex.op x = Ex.op x ∧ Ex.n x = Ex.n x ∧ Ex.d0 x = Ex.d0 x ∧ Ex.d1 x = Ex.d1 x ∧ Ex.d2 x = Ex.d2 x ∧ Ex.d3 x = Ex.d3 x ∧
  (Ex.l x = Ex.l x ∧ (false = true → false = true)) ∧ True) ∧ ([(0 : Int), (0 : Int), (0 : Int), (0 : Int)] = [(0 : Int), (0 : Int), (0 : Int), (0 : Int)] ∧ (0 : Nat) = (0 : Nat)) ∧
  True) ∨ ∃ (x' : UnX), R false x' ∧ x'.2 + (1 : Nat) ≤ x_1.2 ∧ true = true ∧ ((rulesEs = rulesEs ∧ true = true) ∧ (0 : Nat) = (0 : Nat) ∧ (0 : Nat) = (0 : Nat) ∧ False ∧ (Ex.l x =
  Ex.l x ∧ (false = true → false = true)) ∧ (↑(List.length (Ex.l x)) : Int) = (↑(List.length (Ex.l x)) : Int) ∧ wr IntKind.i64 ((↑(UnX.k x_1) : Int) + (1 : Int)) = (↑(UnX.k x') :
  Int) ∧ True) ∧ (Ex.op x = Ex.op x ∧ Ex.n x = Ex.n x ∧ Ex.d0 x = Ex.d0 x ∧ Ex.d1 x = Ex.d1 x ∧ Ex.d2 x = Ex.d2 x ∧ Ex.d3 x = Ex.d3 x ∧ (Ex.l x = Ex.l x ∧ (false = true → false =
  true)) ∧ True) ∧ ([(0 : Int), (0 : Int), (0 : Int), (0 : Int)] = [(0 : Int), (0 : Int), (0 : Int), (0 : Int)] ∧ (0 : Nat) = (0 : Nat)) ∧ True))) ∧ (decide ((↑(UnX.k x_1) : Int) <
  (↑(List.length (Ex.l x)) : Int)) = false → ((Ex.op x == (3 : Int)) = true → (0 : Nat) + List.length (UnX.D x_1) ≤ List.length (UnX.D x_1) ∧ (2 : Nat) ≤ List.length (List.take
  (List.length (UnX.D x_1)) (List.drop (0 : Nat) (UnX.D x_1))) ∧ ∀ (y : List Int × Bool), y = (List.getD (List.take (List.length (UnX.D x_1)) (List.drop (0 : Nat) (UnX.D x_1))) (0 :
  Nat) [], eq4 (List.getD (List.take (List.length (UnX.D x_1)) (List.drop (0 : Nat) (UnX.D x_1))) (0 : Nat) []) (List.getD (List.take (List.length (UnX.D x_1)) (List.drop (0 : Nat)
  (UnX.D x_1))) (1 : Nat) [])) → (4 : Nat) = (4 : Nat) ∧ ((!Prod.snd y) = true → (4 : Nat) = (4 : Nat) ∧ (4 : Nat) = (4 : Nat) ∧ ((0 : Int) = List.getD (Option.getD o [(0 : Int), (0
  : Int), (0 : Int), (0 : Int)]) (0 : Nat) (0 : Int) ∧ (0 : Int) = List.getD (Option.getD o [(0 : Int), (0 : Int), (0 : Int), (0 : Int)]) (1 : Nat) (0 : Int) ∧ (0 : Int) = List.getD
  (Option.getD o [(0 : Int), (0 : Int), (0 : Int), (0 : Int)]) (2 : Nat) (0 : Int) ∧ (0 : Int) = List.getD (Option.getD o [(0 : Int), (0 : Int), (0 : Int), (0 : Int)]) (3 : Nat) (0 :
  Int) ∧ True) ∧ false = Option.isSome o ∧ True) ∧ ((!Prod.snd y) = false → (4 : Nat) = (4 : Nat) ∧ (4 : Nat) = (4 : Nat) ∧ (4 : Nat) = (4 : Nat) ∧ (List.getD (Prod.fst y) (0 : Nat)
  (0 : Int) = List.getD (Option.getD o [(0 : Int), (0 : Int), (0 : Int), (0 : Int)]) (0 : Nat) (0 : Int) ∧ List.getD (Prod.fst y) (1 : Nat) (0 : Int) = List.getD (Option.getD o [(0 :
  Int), (0 : Int), (0 : Int), (0 : Int)]) (1 : Nat) (0 : Int) ∧ List.getD (Prod.fst y) (2 : Nat) (0 : Int) = List.getD (Option.getD o [(0 : Int), (0 : Int), (0 : Int), (0 : Int)]) (2
  : Nat) (0 : Int) ∧ List.getD (Prod.fst y) (3 : Nat) (0 : Int) = List.getD (Option.getD o [(0 : Int), (0 : Int), (0 : Int), (0 : Int)]) (3 : Nat) (0 : Int) ∧ True) ∧ true =
  Option.isSome o ∧ True)) ∧ ((Ex.op x == (3 : Int)) = false → ((Ex.op x == (4 : Int)) = true → (0 : Nat) + List.length (UnX.D x_1) ≤ List.length (UnX.D x_1) ∧ (2 : Nat) ≤
  List.length (List.take (List.length (UnX.D x_1)) (List.drop (0 : Nat) (UnX.D x_1))) ∧ ∀ (y : List Int × Bool), y = (List.getD (List.take (List.length (UnX.D x_1)) (List.drop (0 :
  Nat) (UnX.D x_1))) (0 : Nat) [], eq4 (List.getD (List.take (List.length (UnX.D x_1)) (List.drop (0 : Nat) (UnX.D x_1))) (0 : Nat) []) (List.getD (List.take (List.length (UnX.D
  x_1)) (List.drop (0 : Nat) (UnX.D x_1))) (1 : Nat) [])) → (4 : Nat) = (4 : Nat) ∧ ((!Prod.snd y) = true → (4 : Nat) = (4 : Nat) ∧ (4 : Nat) = (4 : Nat) ∧ ((0 : Int) = List.getD
  (Option.getD o [(0 : Int), (0 : Int), (0 : Int), (0 : Int)]) (0 : Nat) (0 : Int) ∧ (0 : Int) = List.getD (Option.getD o [(0 : Int), (0 : Int), (0 : Int), (0 : Int)]) (1 : Nat) (0 :
  Int) ∧ (0 : Int) = List.getD (Option.getD o [(0 : Int), (0 : Int), (0 : Int), (0 : Int)]) (2 : Nat) (0 : Int) ∧ (0 : Int) = List.getD (Option.getD o [(0 : Int), (0 : Int), (0 :
  Int), (0 : Int)]) (3 : Nat) (0 : Int) ∧ True) ∧ false = Option.isSome o ∧ True) ∧ ((!Prod.snd y) = false → (4 : Nat) = (4 : Nat) ∧ (4 : Nat) = (4 : Nat) ∧ (4 : Nat) = (4 : Nat) ∧
  (List.getD (Prod.fst y) (0 : Nat) (0 : Int) = List.getD (Option.getD o [(0 : Int), (0 : Int), (0 : Int), (0 : Int)]) (0 : Nat) (0 : Int) ∧ List.getD (Prod.fst y) (1 : Nat) (0 :
  Int) = List.getD (Option.getD o [(0 : Int), (0 : Int), (0 : Int), (0 : Int)]) (1 : Nat) (0 : Int) ∧ List.getD (Prod.fst y) (2 : Nat) (0 : Int) = List.getD (Option.getD o [(0 :
  Int), (0 : Int), (0 : Int), (0 : Int)]) (2 : Nat) (0 : Int) ∧ List.getD (Prod.fst y) (3 : Nat) (0 : Int) = List.getD (Option.getD o [(0 : Int), (0 : Int), (0 : Int), (0 : Int)]) (3
  : Nat) (0 : Int) ∧ True) ∧ true = Option.isSome o ∧ True)) ∧ ((Ex.op x == (4 : Int)) = false → ((Ex.op x == (6 : Int)) = true → (0 : Nat) + List.length (UnX.D x_1) ≤ List.length
  (UnX.D x_1) ∧ (2 : Nat) ≤ List.length (List.take (List.length (UnX.D x_1)) (List.drop (0 : Nat) (UnX.D x_1))) ∧ ∀ (y : List Int × Bool), y = (List.getD (List.take (List.length
  (UnX.D x_1)) (List.drop (0 : Nat) (UnX.D x_1))) (0 : Nat) [], eq4 (List.getD (List.take (List.length (UnX.D x_1)) (List.drop (0 : Nat) (UnX.D x_1))) (0 : Nat) []) (List.getD
  (List.take (List.length (UnX.D x_1)) (List.drop (0 : Nat) (UnX.D x_1))) (1 : Nat) [])) → (4 : Nat) = (4 : Nat) ∧ ((!Prod.snd y) = true → (4 : Nat) = (4 : Nat) ∧ (4 : Nat) = (4 :
  Nat) ∧ ((0 : Int) = List.getD (Option.getD o [(0 : Int), (0 : Int), (0 : Int), (0 : Int)]) (0 : Nat) (0 : Int) ∧ (0 : Int) = List.getD (Option.getD o [(0 : Int), (0 : Int), (0 :
  Int), (0 : Int)]) (1 : Nat) (0 : Int) ∧ (0 : Int) = List.getD (Option.getD o [(0 : Int), (0 : Int), (0 : Int), (0 : Int)]) (2 : Nat) (0 : Int) ∧ (0 : Int) = List.getD (Option.getD
  o [(0 : Int), (0 : Int), (0 : Int), (0 : Int)]) (3 : Nat) (0 : Int) ∧ True) ∧ false = Option.isSome o ∧ True) ∧ ((!Prod.snd y) = false → (4 : Nat) = (4 : Nat) ∧ (4 : Nat) = (4 :
  Nat) ∧ (4 : Nat) = (4 : Nat) ∧ (List.getD (Prod.fst y) (0 : Nat) (0 : Int) = List.getD (Option.getD o [(0 : Int), (0 : Int), (0 : Int), (0 : Int)]) (0 : Nat) (0 : Int) ∧ List.getD
  (Prod.fst y) (1 : Nat) (0 : Int) = List.getD (Option.getD o [(0 : Int), (0 : Int), (0 : Int), (0 : Int)]) (1 : Nat) (0 : Int) ∧ List.getD (Prod.fst y) (2 : Nat) (0 : Int) =
  List.getD (Option.getD o [(0 : Int), (0 : Int), (0 : Int), (0 : Int)]) (2 : Nat) (0 : Int) ∧ List.getD (Prod.fst y) (3 : Nat) (0 : Int) = List.getD (Option.getD o [(0 : Int), (0 :
  Int), (0 : Int), (0 : Int)]) (3 : Nat) (0 : Int) ∧ True) ∧ true = Option.isSome o ∧ True)) ∧ ((Ex.op x == (6 : Int)) = false → ((Ex.op x == (7 : Int)) = true → (0 : Nat) +
  List.length (UnX.D x_1) ≤ List.length (UnX.D x_1) ∧ (2 : Nat) ≤ List.length (List.take (List.length (UnX.D x_1)) (List.drop (0 : Nat) (UnX.D x_1))) ∧ ∀ (y : List Int × Bool), y =
  (List.getD (List.take (List.length (UnX.D x_1)) (List.drop (0 : Nat) (UnX.D x_1))) (0 : Nat) [], eq4 (List.getD (List.take (List.length (UnX.D x_1)) (List.drop (0 : Nat) (UnX.D
  x_1))) (0 : Nat) []) (List.getD (List.take (List.length (UnX.D x_1)) (List.drop (0 : Nat) (UnX.D x_1))) (1 : Nat) [])) → (4 : Nat) = (4 : Nat) ∧ ((!Prod.snd y) = true → (4 : Nat) =
  (4 : Nat) ∧ (4 : Nat) = (4 : Nat) ∧ ((0 : Int) = List.getD (Option.getD o [(0 : Int), (0 : Int), (0 : Int), (0 : Int)]) (0 : Nat) (0 : Int) ∧ (0 : Int) = List.getD (Option.getD o
  [(0 : Int), (0 : Int), (0 : Int), (0 : Int)]) (1 : Nat) (0 : Int) ∧ (0 : Int) = List.getD (Option.getD o [(0 : Int), (0 : Int), (0 : Int), (0 : Int)]) (2 : Nat) (0 : Int) ∧ (0 :
  Int) = List.getD (Option.getD o [(0 : Int), (0 : Int), (0 : Int), (0 : Int)]) (3 : Nat) (0 : Int) ∧ True) ∧ false = Option.isSome o ∧ True) ∧ ((!Prod.snd y) = false → (4 : Nat) =
  (4 : Nat) ∧ (4 : Nat) = (4 : Nat) ∧ (4 : Nat) = (4 : Nat) ∧ (List.getD (Prod.fst y) (0 : Nat) (0 : Int) = List.getD (Option.getD o [(0 : Int), (0 : Int), (0 : Int), (0 : Int)]) (0
  : Nat) (0 : Int) ∧ List.getD (Prod.fst y) (1 : Nat) (0 : Int) = List.getD (Option.getD o [(0 : Int), (0 : Int), (0 : Int), (0 : Int)]) (1 : Nat) (0 : Int) ∧ List.getD (Prod.fst y)
  (2 : Nat) (0 : Int) = List.getD (Option.getD o [(0 : Int), (0 : Int), (0 : Int), (0 : Int)]) (2 : Nat) (0 : Int) ∧ List.getD (Prod.fst y) (3 : Nat) (0 : Int) = List.getD
  (Option.getD o [(0 : Int), (0 : Int), (0 : Int), (0 : Int)]) (3 : Nat) (0 : Int) ∧ True) ∧ true = Option.isSome o ∧ True)) ∧ ((Ex.op x == (7 : Int)) = false → ((Ex.op x == (5 :
  Int)) = true → (0 : Nat) + List.length (UnX.D x_1) ≤ List.length (UnX.D x_1) ∧ (2 : Nat) ≤ List.length (List.take (List.length (UnX.D x_1)) (List.drop (0 : Nat) (UnX.D x_1))) ∧ ∀
  (y : Option (List Int)), y = cmb (1 : Int) (List.getD (List.take (List.length (UnX.D x_1)) (List.drop (0 : Nat) (UnX.D x_1))) (0 : Nat) []) (List.getD (List.take (List.length
  (UnX.D x_1)) (List.drop (0 : Nat) (UnX.D x_1))) (1 : Nat) []) → (4 : Nat) = (4 : Nat) ∧ ((!Option.isSome y) = true → (4 : Nat) = (4 : Nat) ∧ (4 : Nat) = (4 : Nat) ∧ ((0 : Int) =
  List.getD (Option.getD o [(0 : Int), (0 : Int), (0 : Int), (0 : Int)]) (0 : Nat) (0 : Int) ∧ (0 : Int) = List.getD (Option.getD o [(0 : Int), (0 : Int), (0 : Int), (0 : Int)]) (1 :
  Nat) (0 : Int) ∧ (0 : Int) = List.getD (Option.getD o [(0 : Int), (0 : Int), (0 : Int), (0 : Int)]) (2 : Nat) (0 : Int) ∧ (0 : Int) = List.getD (Option.getD o [(0 : Int), (0 :
  Int), (0 : Int), (0 : Int)]) (3 : Nat) (0 : Int) ∧ True) ∧ false = Option.isSome o ∧ True) ∧ ((!Option.isSome y) = false → (4 : Nat) = (4 : Nat) ∧ (4 : Nat) = (4 : Nat) ∧ (4 : Nat)
  = (4 : Nat) ∧ (List.getD (Option.getD y [(0 : Int), (0 : Int), (0 : Int), (0 : Int)]) (0 : Nat) (0 : Int) = List.getD (Option.getD o [(0 : Int), (0 : Int), (0 : Int), (0 : Int)])
  (0 : Nat) (0 : Int) ∧ List.getD (Option.getD y [(0 : Int), (0 : Int), (0 : Int), (0 : Int)]) (1 : Nat) (0 : Int) = List.getD (Option.getD o [(0 : Int), (0 : Int), (0 : Int), (0 :
  Int)]) (1 : Nat) (0 : Int) ∧ List.getD (Option.getD y [(0 : Int), (0 : Int), (0 : Int), (0 : Int)]) (2 : Nat) (0 : Int) = List.getD (Option.getD o [(0 : Int), (0 : Int), (0 : Int),
  (0 : Int)]) (2 : Nat) (0 : Int) ∧ List.getD (Option.getD y [(0 : Int), (0 : Int), (0 : Int), (0 : Int)]) (3 : Nat) (0 : Int) = List.getD (Option.getD o [(0 : Int), (0 : Int), (0 :
  Int), (0 : Int)]) (3 : Nat) (0 : Int) ∧ True) ∧ true = Option.isSome o ∧ True)) ∧ ((Ex.op x == (5 : Int)) = false → ((Ex.op x == (8 : Int)) = true → (0 : Nat) + List.length (UnX.D
  x_1) ≤ List.length (UnX.D x_1) ∧ (2 : Nat) ≤ List.length (List.take (List.length (UnX.D x_1)) (List.drop (0 : Nat) (UnX.D x_1))) ∧ ∀ (y : Option (List Int)), y = cmb (-1 : Int)
  (List.getD (List.take (List.length (UnX.D x_1)) (List.drop (0 : Nat) (UnX.D x_1))) (0 : Nat) []) (List.getD (List.take (List.length (UnX.D x_1)) (List.drop (0 : Nat) (UnX.D x_1)))
  (1 : Nat) []) → (4 : Nat) = (4 : Nat) ∧ ((!Option.isSome y) = true → (4 : Nat) = (4 : Nat) ∧ (4 : Nat) = (4 : Nat) ∧ ((0 : Int) = List.getD (Option.getD o [(0 : Int), (0 : Int), (0
  : Int), (0 : Int)]) (0 : Nat) (0 : Int) ∧ (0 : Int) = List.getD (Option.getD o [(0 : Int), (0 : Int), (0 : Int), (0 : Int)]) (1 : Nat) (0 : Int) ∧ (0 : Int) = List.getD
  (Option.getD o [(0 : Int), (0 : Int), (0 : Int), (0 : Int)]) (2 : Nat) (0 : Int) ∧ (0 : Int) = List.getD (Option.getD o [(0 : Int), (0 : Int), (0 : Int), (0 : Int)]) (3 : Nat) (0 :
  Int) ∧ True) ∧ false = Option.isSome o ∧ True) ∧ ((!Option.isSome y) = false → (4 : Nat) = (4 : Nat) ∧ (4 : Nat) = (4 : Nat) ∧ (4 : Nat) = (4 : Nat) ∧ (List.getD (Option.getD y [(0
  : Int), (0 : Int), (0 : Int), (0 : Int)]) (0 : Nat) (0 : Int) = List.getD (Option.getD o [(0 : Int), (0 : Int), (0 : Int), (0 : Int)]) (0 : Nat) (0 : Int) ∧ List.getD (Option.getD
  y [(0 : Int), (0 : Int), (0 : Int), (0 : Int)]) (1 : Nat) (0 : Int) = List.getD (Option.getD o [(0 : Int), (0 : Int), (0 : Int), (0 : Int)]) (1 : Nat) (0 : Int) ∧ List.getD
  (Option.getD y [(0 : Int), (0 : Int), (0 : Int), (0 : Int)]) (2 : Nat) (0 : Int) = List.getD (Option.getD o [(0 : Int), (0 : Int), (0 : Int), (0 : Int)]) (2 : Nat) (0 : Int) ∧
  List.getD (Option.getD y [(0 : Int), (0 : Int), (0 : Int), (0 : Int)]) (3 : Nat) (0 : Int) = List.getD (Option.getD o [(0 : Int), (0 : Int), (0 : Int), (0 : Int)]) (3 : Nat) (0 :
  Int) ∧ True) ∧ true = Option.isSome o ∧ True)) ∧ ((Ex.op x == (8 : Int)) = false → ((Ex.op x == (9 : Int)) = true → (0 : Nat) + List.length (UnX.D x_1) ≤ List.length (UnX.D x_1) ∧
  (2 : Nat) ≤ List.length (List.take (List.length (UnX.D x_1)) (List.drop (0 : Nat) (UnX.D x_1))) ∧ ∀ (y : Option (List Int)), y = cmb (-1 : Int) (List.getD (List.take (List.length
  (UnX.D x_1)) (List.drop (0 : Nat) (UnX.D x_1))) (0 : Nat) []) (List.getD (List.take (List.length (UnX.D x_1)) (List.drop (0 : Nat) (UnX.D x_1))) (1 : Nat) []) → (4 : Nat) = (4 :
  Nat) ∧ ((!Option.isSome y) = true → (4 : Nat) = (4 : Nat) ∧ (4 : Nat) = (4 : Nat) ∧ ((0 : Int) = List.getD (Option.getD o [(0 : Int), (0 : Int), (0 : Int), (0 : Int)]) (0 : Nat) (0
  : Int) ∧ (0 : Int) = List.getD (Option.getD o [(0 : Int), (0 : Int), (0 : Int), (0 : Int)]) (1 : Nat) (0 : Int) ∧ (0 : Int) = List.getD (Option.getD o [(0 : Int), (0 : Int), (0 :
  Int), (0 : Int)]) (2 : Nat) (0 : Int) ∧ (0 : Int) = List.getD (Option.getD o [(0 : Int), (0 : Int), (0 : Int), (0 : Int)]) (3 : Nat) (0 : Int) ∧ True) ∧ false = Option.isSome o ∧
  True) ∧ ((!Option.isSome y) = false → (4 : Nat) = (4 : Nat) ∧ (4 : Nat) = (4 : Nat) ∧ (4 : Nat) = (4 : Nat) ∧ (List.getD (Option.getD y [(0 : Int), (0 : Int), (0 : Int), (0 :
  Int)]) (0 : Nat) (0 : Int) = List.getD (Option.getD o [(0 : Int), (0 : Int), (0 : Int), (0 : Int)]) (0 : Nat) (0 : Int) ∧ List.getD (Option.getD y [(0 : Int), (0 : Int), (0 : Int),
  (0 : Int)]) (1 : Nat) (0 : Int) = List.getD (Option.getD o [(0 : Int), (0 : Int), (0 : Int), (0 : Int)]) (1 : Nat) (0 : Int) ∧ List.getD (Option.getD y [(0 : Int), (0 : Int), (0 :
  Int), (0 : Int)]) (2 : Nat) (0 : Int) = List.getD (Option.getD o [(0 : Int), (0 : Int), (0 : Int), (0 : Int)]) (2 : Nat) (0 : Int) ∧ List.getD (Option.getD y [(0 : Int), (0 : Int),
  (0 : Int), (0 : Int)]) (3 : Nat) (0 : Int) = List.getD (Option.getD o [(0 : Int), (0 : Int), (0 : Int), (0 : Int)]) (3 : Nat) (0 : Int) ∧ True) ∧ true = Option.isSome o ∧ True)) ∧
  ((Ex.op x == (9 : Int)) = false → ((Ex.op x == (10 : Int)) = true → (0 : Nat) + List.length (UnX.D x_1) ≤ List.length (UnX.D x_1) ∧ (2 : Nat) ≤ List.length (List.take (List.length
  (UnX.D x_1)) (List.drop (0 : Nat) (UnX.D x_1))) ∧ ∀ (y : Option (List Int)), y = cmb (-1 : Int) (List.getD (List.take (List.length (UnX.D x_1)) (List.drop (0 : Nat) (UnX.D x_1)))
  (0 : Nat) []) (List.getD (List.take (List.length (UnX.D x_1)) (List.drop (0 : Nat) (UnX.D x_1))) (1 : Nat) []) → (4 : Nat) = (4 : Nat) ∧ ((!Option.isSome y) = true → (4 : Nat) = (4
  : Nat) ∧ (4 : Nat) = (4 : Nat) ∧ ((0 : Int) = List.getD (Option.getD o [(0 : Int), (0 : Int), (0 : Int), (0 : Int)]) (0 : Nat) (0 : Int) ∧ (0 : Int) = List.getD (Option.getD o [(0
  : Int), (0 : Int), (0 : Int), (0 : Int)]) (1 : Nat) (0 : Int) ∧ (0 : Int) = List.getD (Option.getD o [(0 : Int), (0 : Int), (0 : Int), (0 : Int)]) (2 : Nat) (0 : Int) ∧ (0 : Int) =
  List.getD (Option.getD o [(0 : Int), (0 : Int), (0 : Int), (0 : Int)]) (3 : Nat) (0 : Int) ∧ True) ∧ false = Option.isSome o ∧ True) ∧ ((!Option.isSome y) = false → (4 : Nat) = (4
  : Nat) ∧ (4 : Nat) = (4 : Nat) ∧ (4 : Nat) = (4 : Nat) ∧ (List.getD (Option.getD y [(0 : Int), (0 : Int), (0 : Int), (0 : Int)]) (0 : Nat) (0 : Int) = List.getD (Option.getD o [(0
  : Int), (0 : Int), (0 : Int), (0 : Int)]) (0 : Nat) (0 : Int) ∧ List.getD (Option.getD y [(0 : Int), (0 : Int), (0 : Int), (0 : Int)]) (1 : Nat) (0 : Int) = List.getD (Option.getD
  o [(0 : Int), (0 : Int), (0 : Int), (0 : Int)]) (1 : Nat) (0 : Int) ∧ List.getD (Option.getD y [(0 : Int), (0 : Int), (0 : Int), (0 : Int)]) (2 : Nat) (0 : Int) = List.getD
  (Option.getD o [(0 : Int), (0 : Int), (0 : Int), (0 : Int)]) (2 : Nat) (0 : Int) ∧ List.getD (Option.getD y [(0 : Int), (0 : Int), (0 : Int), (0 : Int)]) (3 : Nat) (0 : Int) =
  List.getD (Option.getD o [(0 : Int), (0 : Int), (0 : Int), (0 : Int)]) (3 : Nat) (0 : Int) ∧ True) ∧ true = Option.isSome o ∧ True)) ∧ ((Ex.op x == (10 : Int)) = false → ((Ex.op x
  == (11 : Int)) = true → (0 : Nat) + List.length (UnX.D x_1) ≤ List.length (UnX.D x_1) ∧ (4 : Nat) ≤ List.length (List.take (List.length (UnX.D x_1)) (List.drop (0 : Nat) (UnX.D
  x_1))) ∧ ∀ (y : List Int × Bool), y = (List.getD (List.take (List.length (UnX.D x_1)) (List.drop (0 : Nat) (UnX.D x_1))) (2 : Nat) [], eq4 (List.getD (List.take (List.length (UnX.D
  x_1)) (List.drop (0 : Nat) (UnX.D x_1))) (0 : Nat) []) (List.getD (List.take (List.length (UnX.D x_1)) (List.drop (0 : Nat) (UnX.D x_1))) (1 : Nat) []) && eq4 (List.getD (List.take
  (List.length (UnX.D x_1)) (List.drop (0 : Nat) (UnX.D x_1))) (2 : Nat) []) (List.getD (List.take (List.length (UnX.D x_1)) (List.drop (0 : Nat) (UnX.D x_1))) (3 : Nat) [])) → (4 :
  Nat) = (4 : Nat) ∧ ((!Prod.snd y) = true → (4 : Nat) = (4 : Nat) ∧ (4 : Nat) = (4 : Nat) ∧ ((0 : Int) = List.getD (Option.getD o [(0 : Int), (0 : Int), (0 : Int), (0 : Int)]) (0 :
  Nat) (0 : Int) ∧ (0 : Int) = List.getD (Option.getD o [(0 : Int), (0 : Int), (0 : Int), (0 : Int)]) (1 : Nat) (0 : Int) ∧ (0 : Int) = List.getD (Option.getD o [(0 : Int), (0 :
  Int), (0 : Int), (0 : Int)]) (2 : Nat) (0 : Int) ∧ (0 : Int) = List.getD (Option.getD o [(0 : Int), (0 : Int), (0 : Int), (0 : Int)]) (3 : Nat) (0 : Int) ∧ True) ∧ false =
  Option.isSome o ∧ True) ∧ ((!Prod.snd y) = false → (4 : Nat) = (4 : Nat) ∧ (4 : Nat) = (4 : Nat) ∧ (4 : Nat) = (4 : Nat) ∧ (List.getD (Prod.fst y) (0 : Nat) (0 : Int) = List.getD
  (Option.getD o [(0 : Int), (0 : Int), (0 : Int), (0 : Int)]) (0 : Nat) (0 : Int) ∧ List.getD (Prod.fst y) (1 : Nat) (0 : Int) = List.getD (Option.getD o [(0 : Int), (0 : Int), (0 :
  Int), (0 : Int)]) (1 : Nat) (0 : Int) ∧ List.getD (Prod.fst y) (2 : Nat) (0 : Int) = List.getD (Option.getD o [(0 : Int), (0 : Int), (0 : Int), (0 : Int)]) (2 : Nat) (0 : Int) ∧
  List.getD (Prod.fst y) (3 : Nat) (0 : Int) = List.getD (Option.getD o [(0 : Int), (0 : Int), (0 : Int), (0 : Int)]) (3 : Nat) (0 : Int) ∧ True) ∧ true = Option.isSome o ∧ True)) ∧
  ((Ex.op x == (11 : Int)) = false → False))))))))))) ∧ ∀ (x_1 : UnX), R false x_1 → (decide ((↑(UnX.k x_1) : Int) < (↑(List.length (Ex.l x)) : Int)) = true → (0 : Int) ≤ (↑(UnX.k
  x_1) : Int) ∧ (↑(UnX.k x_1) : Int) + (1 : Int) ≤ (↑(List.length (Ex.l x)) : Int) ∧ ∀ (x_2 : Ex), (Ex.l x)[Int.toNat (↑(UnX.k x_1) : Int)]? = some x_2 → SV.pmap rulesEs = rulesV ∧
  (Ex.sz (Ex.mk (Ex.op x_2) (Ex.n x_2) (Ex.d0 x_2) (Ex.d1 x_2) (Ex.d2 x_2) (Ex.d3 x_2) (Ex.l x_2)) + (1 : Nat) ≤ m ∧ formX (Ex.mk (Ex.op x_2) (Ex.n x_2) (Ex.d0 x_2) (Ex.d1 x_2)
  (Ex.d2 x_2) (Ex.d3 x_2) (Ex.l x_2)) = true) ∧ ∀ (o_1 : Option (List Int)), o_1 = unitX (Ex.mk (Ex.op x_2) (Ex.n x_2) (Ex.d0 x_2) (Ex.d1 x_2) (Ex.d2 x_2) (Ex.d3 x_2) (Ex.l x_2)) →
  (4 : Nat) = (4 : Nat) ∧ ((!Option.isSome o_1) = true → (4 : Nat) = (4 : Nat) ∧ (4 : Nat) = (4 : Nat) ∧ ((0 : Int) = List.getD (Option.getD o [(0 : Int), (0 : Int), (0 : Int), (0 :
  Int)]) (0 : Nat) (0 : Int) ∧ (0 : Int) = List.getD (Option.getD o [(0 : Int), (0 : Int), (0 : Int), (0 : Int)]) (1 : Nat) (0 : Int) ∧ (0 : Int) = List.getD (Option.getD o [(0 :
  Int), (0 : Int), (0 : Int), (0 : Int)]) (2 : Nat) (0 : Int) ∧ (0 : Int) = List.getD (Option.getD o [(0 : Int), (0 : Int), (0 : Int), (0 : Int)]) (3 : Nat) (0 : Int) ∧ True) ∧ false
  = Option.isSome o ∧ True) ∧ ((!Option.isSome o_1) = false → (4 : Nat) = (4 : Nat) ∧ ((∃ (x' : UnX), R true x' ∧ x'.2 + (1 : Nat) ≤ x_1.2 ∧ true = true ∧ ((rulesEs = rulesEs ∧ true
  = true) ∧ (0 : Nat) = (0 : Nat) ∧ (0 : Nat) = (0 : Nat) ∧ ((0 : Nat) = (0 : Nat) ∧ (1 : Nat) = List.length (UnX.D x') ∧ True) ∧ (Ex.l x = Ex.l x ∧ (false = true → false = true)) ∧
  (↑(List.length (Ex.l x)) : Int) = (↑(List.length (Ex.l x)) : Int) ∧ wr IntKind.i64 ((↑(UnX.k x_1) : Int) + (1 : Int)) = (↑(UnX.k x') : Int) ∧ True) ∧ ([[List.getD (Option.getD o_1
  [(0 : Int), (0 : Int), (0 : Int), (0 : Int)]) (0 : Nat) (0 : Int), List.getD (Option.getD o_1 [(0 : Int), (0 : Int), (0 : Int), (0 : Int)]) (1 : Nat) (0 : Int), List.getD
  (Option.getD o_1 [(0 : Int), (0 : Int), (0 : Int), (0 : Int)]) (2 : Nat) (0 : Int), List.getD (Option.getD o_1 [(0 : Int), (0 : Int), (0 : Int), (0 : Int)]) (3 : Nat) (0 : Int)]] =
  UnX.D x' ∧ (0 : Nat) = (0 : Nat)) ∧ (Ex.op x = Ex.op x ∧ Ex.n x = Ex.n x ∧ Ex.d0 x = Ex.d0 x ∧ Ex.d1 x = Ex.d1 x ∧ Ex.d2 x = Ex.d2 x ∧ Ex.d3 x = Ex.d3 x ∧ (Ex.l x = Ex.l x ∧ (false
  = true → false = true)) ∧ True) ∧ ([(0 : Int), (0 : Int), (0 : Int), (0 : Int)] = [(0 : Int), (0 : Int), (0 : Int), (0 : Int)] ∧ (0 : Nat) = (0 : Nat)) ∧ True) ∨ ∃ (x' : UnX), R
  false x' ∧ x'.2 + (1 : Nat) ≤ x_1.2 ∧ true = true ∧ ((rulesEs = rulesEs ∧ true = true) ∧ (0 : Nat) = (0 : Nat) ∧ (0 : Nat) = (0 : Nat) ∧ False ∧ (Ex.l x = Ex.l x ∧ (false = true →
  false = true)) ∧ (↑(List.length (Ex.l x)) : Int) = (↑(List.length (Ex.l x)) : Int) ∧ wr IntKind.i64 ((↑(UnX.k x_1) : Int) + (1 : Int)) = (↑(UnX.k x') : Int) ∧ True) ∧ (Ex.op x =
  Ex.op x ∧ Ex.n x = Ex.n x ∧ Ex.d0 x = Ex.d0 x ∧ Ex.d1 x = Ex.d1 x ∧ Ex.d2 x = Ex.d2 x ∧ Ex.d3 x = Ex.d3 x ∧ (Ex.l x = Ex.l x ∧ (false = true → false = true)) ∧ True) ∧ ([(0 : Int),
  (0 : Int), (0 : Int), (0 : Int)] = [(0 : Int), (0 : Int), (0 : Int), (0 : Int)] ∧ (0 : Nat) = (0 : Nat)) ∧ True))) ∧ (decide ((↑(UnX.k x_1) : Int) < (↑(List.length (Ex.l x)) :
  Int)) = false → ((Ex.op x == (3 : Int)) = true → (2 : Nat) ≤ (0 : Nat) ∧ ∀ (y : List Int × Bool), y = (List.getD [] (0 : Nat) [], eq4 (List.getD [] (0 : Nat) []) (List.getD [] (1 :
  Nat) [])) → (4 : Nat) = (4 : Nat) ∧ ((!Prod.snd y) = true → (4 : Nat) = (4 : Nat) ∧ (4 : Nat) = (4 : Nat) ∧ ((0 : Int) = List.getD (Option.getD o [(0 : Int), (0 : Int), (0 : Int),
  (0 : Int)]) (0 : Nat) (0 : Int) ∧ (0 : Int) = List.getD (Option.getD o [(0 : Int), (0 : Int), (0 : Int), (0 : Int)]) (1 : Nat) (0 : Int) ∧ (0 : Int) = List.getD (Option.getD o [(0
  : Int), (0 : Int), (0 : Int), (0 : Int)]) (2 : Nat) (0 : Int) ∧ (0 : Int) = List.getD (Option.getD o [(0 : Int), (0 : Int), (0 : Int), (0 : Int)]) (3 : Nat) (0 : Int) ∧ True) ∧
  false = Option.isSome o ∧ True) ∧ ((!Prod.snd y) = false → (4 : Nat) = (4 : Nat) ∧ (4 : Nat) = (4 : Nat) ∧ (4 : Nat) = (4 : Nat) ∧ (List.getD (Prod.fst y) (0 : Nat) (0 : Int) =
  List.getD (Option.getD o [(0 : Int), (0 : Int), (0 : Int), (0 : Int)]) (0 : Nat) (0 : Int) ∧ List.getD (Prod.fst y) (1 : Nat) (0 : Int) = List.getD (Option.getD o [(0 : Int), (0 :
  Int), (0 : Int), (0 : Int)]) (1 : Nat) (0 : Int) ∧ List.getD (Prod.fst y) (2 : Nat) (0 : Int) = List.getD (Option.getD o [(0 : Int), (0 : Int), (0 : Int), (0 : Int)]) (2 : Nat) (0
  : Int) ∧ List.getD (Prod.fst y) (3 : Nat) (0 : Int) = List.getD (Option.getD o [(0 : Int), (0 : Int), (0 : Int), (0 : Int)]) (3 : Nat) (0 : Int) ∧ True) ∧ true = Option.isSome o ∧
  True)) ∧ ((Ex.op x == (3 : Int)) = false → ((Ex.op x == (4 : Int)) = true → (2 : Nat) ≤ (0 : Nat) ∧ ∀ (y : List Int × Bool), y = (List.getD [] (0 : Nat) [], eq4 (List.getD [] (0 :
  Nat) []) (List.getD [] (1 : Nat) [])) → (4 : Nat) = (4 : Nat) ∧ ((!Prod.snd y) = true → (4 : Nat) = (4 : Nat) ∧ (4 : Nat) = (4 : Nat) ∧ ((0 : Int) = List.getD (Option.getD o [(0 :
  Int), (0 : Int), (0 : Int), (0 : Int)]) (0 : Nat) (0 : Int) ∧ (0 : Int) = List.getD (Option.getD o [(0 : Int), (0 : Int), (0 : Int), (0 : Int)]) (1 : Nat) (0 : Int) ∧ (0 : Int) =
  List.getD (Option.getD o [(0 : Int), (0 : Int), (0 : Int), (0 : Int)]) (2 : Nat) (0 : Int) ∧ (0 : Int) = List.getD (Option.getD o [(0 : Int), (0 : Int), (0 : Int), (0 : Int)]) (3 :
  Nat) (0 : Int) ∧ True) ∧ false = Option.isSome o ∧ True) ∧ ((!Prod.snd y) = false → (4 : Nat) = (4 : Nat) ∧ (4 : Nat) = (4 : Nat) ∧ (4 : Nat) = (4 : Nat) ∧ (List.getD (Prod.fst y)
  (0 : Nat) (0 : Int) = List.getD (Option.getD o [(0 : Int), (0 : Int), (0 : Int), (0 : Int)]) (0 : Nat) (0 : Int) ∧ List.getD (Prod.fst y) (1 : Nat) (0 : Int) = List.getD
  (Option.getD o [(0 : Int), (0 : Int), (0 : Int), (0 : Int)]) (1 : Nat) (0 : Int) ∧ List.getD (Prod.fst y) (2 : Nat) (0 : Int) = List.getD (Option.getD o [(0 : Int), (0 : Int), (0 :
  Int), (0 : Int)]) (2 : Nat) (0 : Int) ∧ List.getD (Prod.fst y) (3 : Nat) (0 : Int) = List.getD (Option.getD o [(0 : Int), (0 : Int), (0 : Int), (0 : Int)]) (3 : Nat) (0 : Int) ∧
  True) ∧ true = Option.isSome o ∧ True)) ∧ ((Ex.op x == (4 : Int)) = false → ((Ex.op x == (6 : Int)) = true → (2 : Nat) ≤ (0 : Nat) ∧ ∀ (y : List Int × Bool), y = (List.getD [] (0 :
  Nat) [], eq4 (List.getD [] (0 : Nat) []) (List.getD [] (1 : Nat) [])) → (4 : Nat) = (4 : Nat) ∧ ((!Prod.snd y) = true → (4 : Nat) = (4 : Nat) ∧ (4 : Nat) = (4 : Nat) ∧ ((0 : Int) =
  List.getD (Option.getD o [(0 : Int), (0 : Int), (0 : Int), (0 : Int)]) (0 : Nat) (0 : Int) ∧ (0 : Int) = List.getD (Option.getD o [(0 : Int), (0 : Int), (0 : Int), (0 : Int)]) (1 :
  Nat) (0 : Int) ∧ (0 : Int) = List.getD (Option.getD o [(0 : Int), (0 : Int), (0 : Int), (0 : Int)]) (2 : Nat) (0 : Int) ∧ (0 : Int) = List.getD (Option.getD o [(0 : Int), (0 :
  Int), (0 : Int), (0 : Int)]) (3 : Nat) (0 : Int) ∧ True) ∧ false = Option.isSome o ∧ True) ∧ ((!Prod.snd y) = false → (4 : Nat) = (4 : Nat) ∧ (4 : Nat) = (4 : Nat) ∧ (4 : Nat) = (4
  : Nat) ∧ (List.getD (Prod.fst y) (0 : Nat) (0 : Int) = List.getD (Option.getD o [(0 : Int), (0 : Int), (0 : Int), (0 : Int)]) (0 : Nat) (0 : Int) ∧ List.getD (Prod.fst y) (1 : Nat)
  (0 : Int) = List.getD (Option.getD o [(0 : Int), (0 : Int), (0 : Int), (0 : Int)]) (1 : Nat) (0 : Int) ∧ List.getD (Prod.fst y) (2 : Nat) (0 : Int) = List.getD (Option.getD o [(0 :
  Int), (0 : Int), (0 : Int), (0 : Int)]) (2 : Nat) (0 : Int) ∧ List.getD (Prod.fst y) (3 : Nat) (0 : Int) = List.getD (Option.getD o [(0 : Int), (0 : Int), (0 : Int), (0 : Int)]) (3
  : Nat) (0 : Int) ∧ True) ∧ true = Option.isSome o ∧ True)) ∧ ((Ex.op x == (6 : Int)) = false → ((Ex.op x == (7 : Int)) = true → (2 : Nat) ≤ (0 : Nat) ∧ ∀ (y : List Int × Bool), y =
  (List.getD [] (0 : Nat) [], eq4 (List.getD [] (0 : Nat) []) (List.getD [] (1 : Nat) [])) → (4 : Nat) = (4 : Nat) ∧ ((!Prod.snd y) = true → (4 : Nat) = (4 : Nat) ∧ (4 : Nat) = (4 :
  Nat) ∧ ((0 : Int) = List.getD (Option.getD o [(0 : Int), (0 : Int), (0 : Int), (0 : Int)]) (0 : Nat) (0 : Int) ∧ (0 : Int) = List.getD (Option.getD o [(0 : Int), (0 : Int), (0 :
  Int), (0 : Int)]) (1 : Nat) (0 : Int) ∧ (0 : Int) = List.getD (Option.getD o [(0 : Int), (0 : Int), (0 : Int), (0 : Int)]) (2 : Nat) (0 : Int) ∧ (0 : Int) = List.getD (Option.getD
  o [(0 : Int), (0 : Int), (0 : Int), (0 : Int)]) (3 : Nat) (0 : Int) ∧ True) ∧ false = Option.isSome o ∧ True) ∧ ((!Prod.snd y) = false → (4 : Nat) = (4 : Nat) ∧ (4 : Nat) = (4 :
  Nat) ∧ (4 : Nat) = (4 : Nat) ∧ (List.getD (Prod.fst y) (0 : Nat) (0 : Int) = List.getD (Option.getD o [(0 : Int), (0 : Int), (0 : Int), (0 : Int)]) (0 : Nat) (0 : Int) ∧ List.getD
  (Prod.fst y) (1 : Nat) (0 : Int) = List.getD (Option.getD o [(0 : Int), (0 : Int), (0 : Int), (0 : Int)]) (1 : Nat) (0 : Int) ∧ List.getD (Prod.fst y) (2 : Nat) (0 : Int) =
  List.getD (Option.getD o [(0 : Int), (0 : Int), (0 : Int), (0 : Int)]) (2 : Nat) (0 : Int) ∧ List.getD (Prod.fst y) (3 : Nat) (0 : Int) = List.getD (Option.getD o [(0 : Int), (0 :
  Int), (0 : Int), (0 : Int)]) (3 : Nat) (0 : Int) ∧ True) ∧ true = Option.isSome o ∧ True)) ∧ ((Ex.op x == (7 : Int)) = false → ((Ex.op x == (5 : Int)) = true → (2 : Nat) ≤ (0 :
  Nat) ∧ ∀ (y : Option (List Int)), y = cmb (1 : Int) (List.getD [] (0 : Nat) []) (List.getD [] (1 : Nat) []) → (4 : Nat) = (4 : Nat) ∧ ((!Option.isSome y) = true → (4 : Nat) = (4 :
  Nat) ∧ (4 : Nat) = (4 : Nat) ∧ ((0 : Int) = List.getD (Option.getD o [(0 : Int), (0 : Int), (0 : Int), (0 : Int)]) (0 : Nat) (0 : Int) ∧ (0 : Int) = List.getD (Option.getD o [(0 :
  Int), (0 : Int), (0 : Int), (0 : Int)]) (1 : Nat) (0 : Int) ∧ (0 : Int) = List.getD (Option.getD o [(0 : Int), (0 : Int), (0 : Int), (0 : Int)]) (2 : Nat) (0 : Int) ∧ (0 : Int) =
  List.getD (Option.getD o [(0 : Int), (0 : Int), (0 : Int), (0 : Int)]) (3 : Nat) (0 : Int) ∧ True) ∧ false = Option.isSome o ∧ True) ∧ ((!Option.isSome y) = false → (4 : Nat) = (4
  : Nat) ∧ (4 : Nat) = (4 : Nat) ∧ (4 : Nat) = (4 : Nat) ∧ (List.getD (Option.getD y [(0 : Int), (0 : Int), (0 : Int), (0 : Int)]) (0 : Nat) (0 : Int) = List.getD (Option.getD o [(0
  : Int), (0 : Int), (0 : Int), (0 : Int)]) (0 : Nat) (0 : Int) ∧ List.getD (Option.getD y [(0 : Int), (0 : Int), (0 : Int), (0 : Int)]) (1 : Nat) (0 : Int) = List.getD (Option.getD
  o [(0 : Int), (0 : Int), (0 : Int), (0 : Int)]) (1 : Nat) (0 : Int) ∧ List.getD (Option.getD y [(0 : Int), (0 : Int), (0 : Int), (0 : Int)]) (2 : Nat) (0 : Int) = List.getD
  (Option.getD o [(0 : Int), (0 : Int), (0 : Int), (0 : Int)]) (2 : Nat) (0 : Int) ∧ List.getD (Option.getD y [(0 : Int), (0 : Int), (0 : Int), (0 : Int)]) (3 : Nat) (0 : Int) =
  List.getD (Option.getD o [(0 : Int), (0 : Int), (0 : Int), (0 : Int)]) (3 : Nat) (0 : Int) ∧ True) ∧ true = Option.isSome o ∧ True)) ∧ ((Ex.op x == (5 : Int)) = false → ((Ex.op x
  == (8 : Int)) = true → (2 : Nat) ≤ (0 : Nat) ∧ ∀ (y : Option (List Int)), y = cmb (-1 : Int) (List.getD [] (0 : Nat) []) (List.getD [] (1 : Nat) []) → (4 : Nat) = (4 : Nat) ∧
  ((!Option.isSome y) = true → (4 : Nat) = (4 : Nat) ∧ (4 : Nat) = (4 : Nat) ∧ ((0 : Int) = List.getD (Option.getD o [(0 : Int), (0 : Int), (0 : Int), (0 : Int)]) (0 : Nat) (0 : Int)
  ∧ (0 : Int) = List.getD (Option.getD o [(0 : Int), (0 : Int), (0 : Int), (0 : Int)]) (1 : Nat) (0 : Int) ∧ (0 : Int) = List.getD (Option.getD o [(0 : Int), (0 : Int), (0 : Int), (0
  : Int)]) (2 : Nat) (0 : Int) ∧ (0 : Int) = List.getD (Option.getD o [(0 : Int), (0 : Int), (0 : Int), (0 : Int)]) (3 : Nat) (0 : Int) ∧ True) ∧ false = Option.isSome o ∧ True) ∧
  ((!Option.isSome y) = false → (4 : Nat) = (4 : Nat) ∧ (4 : Nat) = (4 : Nat) ∧ (4 : Nat) = (4 : Nat) ∧ (List.getD (Option.getD y [(0 : Int), (0 : Int), (0 : Int), (0 : Int)]) (0 :
  Nat) (0 : Int) = List.getD (Option.getD o [(0 : Int), (0 : Int), (0 : Int), (0 : Int)]) (0 : Nat) (0 : Int) ∧ List.getD (Option.getD y [(0 : Int), (0 : Int), (0 : Int), (0 : Int)])
  (1 : Nat) (0 : Int) = List.getD (Option.getD o [(0 : Int), (0 : Int), (0 : Int), (0 : Int)]) (1 : Nat) (0 : Int) ∧ List.getD (Option.getD y [(0 : Int), (0 : Int), (0 : Int), (0 :
  Int)]) (2 : Nat) (0 : Int) = List.getD (Option.getD o [(0 : Int), (0 : Int), (0 : Int), (0 : Int)]) (2 : Nat) (0 : Int) ∧ List.getD (Option.getD y [(0 : Int), (0 : Int), (0 : Int),
  (0 : Int)]) (3 : Nat) (0 : Int) = List.getD (Option.getD o [(0 : Int), (0 : Int), (0 : Int), (0 : Int)]) (3 : Nat) (0 : Int) ∧ True) ∧ true = Option.isSome o ∧ True)) ∧ ((Ex.op x
  == (8 : Int)) = false → ((Ex.op x == (9 : Int)) = true → (2 : Nat) ≤ (0 : Nat) ∧ ∀ (y : Option (List Int)), y = cmb (-1 : Int) (List.getD [] (0 : Nat) []) (List.getD [] (1 : Nat)
  []) → (4 : Nat) = (4 : Nat) ∧ ((!Option.isSome y) = true → (4 : Nat) = (4 : Nat) ∧ (4 : Nat) = (4 : Nat) ∧ ((0 : Int) = List.getD (Option.getD o [(0 : Int), (0 : Int), (0 : Int),
  (0 : Int)]) (0 : Nat) (0 : Int) ∧ (0 : Int) = List.getD (Option.getD o [(0 : Int), (0 : Int), (0 : Int), (0 : Int)]) (1 : Nat) (0 : Int) ∧ (0 : Int) = List.getD (Option.getD o [(0
  : Int), (0 : Int), (0 : Int), (0 : Int)]) (2 : Nat) (0 : Int) ∧ (0 : Int) = List.getD (Option.getD o [(0 : Int), (0 : Int), (0 : Int), (0 : Int)]) (3 : Nat) (0 : Int) ∧ True) ∧
  false = Option.isSome o ∧ True) ∧ ((!Option.isSome y) = false → (4 : Nat) = (4 : Nat) ∧ (4 : Nat) = (4 : Nat) ∧ (4 : Nat) = (4 : Nat) ∧ (List.getD (Option.getD y [(0 : Int), (0 :
  Int), (0 : Int), (0 : Int)]) (0 : Nat) (0 : Int) = List.getD (Option.getD o [(0 : Int), (0 : Int), (0 : Int), (0 : Int)]) (0 : Nat) (0 : Int) ∧ List.getD (Option.getD y [(0 : Int),
  (0 : Int), (0 : Int), (0 : Int)]) (1 : Nat) (0 : Int) = List.getD (Option.getD o [(0 : Int), (0 : Int), (0 : Int), (0 : Int)]) (1 : Nat) (0 : Int) ∧ List.getD (Option.getD y [(0 :
  Int), (0 : Int), (0 : Int), (0 : Int)]) (2 : Nat) (0 : Int) = List.getD (Option.getD o [(0 : Int), (0 : Int), (0 : Int), (0 : Int)]) (2 : Nat) (0 : Int) ∧ List.getD (Option.getD y
  [(0 : Int), (0 : Int), (0 : Int), (0 : Int)]) (3 : Nat) (0 : Int) = List.getD (Option.getD o [(0 : Int), (0 : Int), (0 : Int), (0 : Int)]) (3 : Nat) (0 : Int) ∧ True) ∧ true =
  Option.isSome o ∧ True)) ∧ ((Ex.op x == (9 : Int)) = false → ((Ex.op x == (10 : Int)) = true → (2 : Nat) ≤ (0 : Nat) ∧ ∀ (y : Option (List Int)), y = cmb (-1 : Int) (List.getD []
  (0 : Nat) []) (List.getD [] (1 : Nat) []) → (4 : Nat) = (4 : Nat) ∧ ((!Option.isSome y) = true → (4 : Nat) = (4 : Nat) ∧ (4 : Nat) = (4 : Nat) ∧ ((0 : Int) = List.getD (Option.getD
  o [(0 : Int), (0 : Int), (0 : Int), (0 : Int)]) (0 : Nat) (0 : Int) ∧ (0 : Int) = List.getD (Option.getD o [(0 : Int), (0 : Int), (0 : Int), (0 : Int)]) (1 : Nat) (0 : Int) ∧ (0 :
  Int) = List.getD (Option.getD o [(0 : Int), (0 : Int), (0 : Int), (0 : Int)]) (2 : Nat) (0 : Int) ∧ (0 : Int) = List.getD (Option.getD o [(0 : Int), (0 : Int), (0 : Int), (0 :
  Int)]) (3 : Nat) (0 : Int) ∧ True) ∧ false = Option.isSome o ∧ True) ∧ ((!Option.isSome y) = false → (4 : Nat) = (4 : Nat) ∧ (4 : Nat) = (4 : Nat) ∧ (4 : Nat) = (4 : Nat) ∧
  (List.getD (Option.getD y [(0 : Int), (0 : Int), (0 : Int), (0 : Int)]) (0 : Nat) (0 : Int) = List.getD (Option.getD o [(0 : Int), (0 : Int), (0 : Int), (0 : Int)]) (0 : Nat) (0 :
  Int) ∧ List.getD (Option.getD y [(0 : Int), (0 : Int), (0 : Int), (0 : Int)]) (1 : Nat) (0 : Int) = List.getD (Option.getD o [(0 : Int), (0 : Int), (0 : Int), (0 : Int)]) (1 : Nat)
  (0 : Int) ∧ List.getD (Option.getD y [(0 : Int), (0 : Int), (0 : Int), (0 : Int)]) (2 : Nat) (0 : Int) = List.getD (Option.getD o [(0 : Int), (0 : Int), (0 : Int), (0 : Int)]) (2 :
  Nat) (0 : Int) ∧ List.getD (Option.getD y [(0 : Int), (0 : Int), (0 : Int), (0 : Int)]) (3 : Nat) (0 : Int) = List.getD (Option.getD o [(0 : Int), (0 : Int), (0 : Int), (0 : Int)])
  (3 : Nat) (0 : Int) ∧ True) ∧ true = Option.isSome o ∧ True)) ∧ ((Ex.op x == (10 : Int)) = false → ((Ex.op x == (11 : Int)) = true → (4 : Nat) ≤ (0 : Nat) ∧ ∀ (y : List Int ×
  Bool), y = (List.getD [] (2 : Nat) [], eq4 (List.getD [] (0 : Nat) []) (List.getD [] (1 : Nat) []) && eq4 (List.getD [] (2 : Nat) []) (List.getD [] (3 : Nat) [])) → (4 : Nat) = (4
  : Nat) ∧ ((!Prod.snd y) = true → (4 : Nat) = (4 : Nat) ∧ (4 : Nat) = (4 : Nat) ∧ ((0 : Int) = List.getD (Option.getD o [(0 : Int), (0 : Int), (0 : Int), (0 : Int)]) (0 : Nat) (0 :
  Int) ∧ (0 : Int) = List.getD (Option.getD o [(0 : Int), (0 : Int), (0 : Int), (0 : Int)]) (1 : Nat) (0 : Int) ∧ (0 : Int) = List.getD (Option.getD o [(0 : Int), (0 : Int), (0 :
  Int), (0 : Int)]) (2 : Nat) (0 : Int) ∧ (0 : Int) = List.getD (Option.getD o [(0 : Int), (0 : Int), (0 : Int), (0 : Int)]) (3 : Nat) (0 : Int) ∧ True) ∧ false = Option.isSome o ∧
  True) ∧ ((!Prod.snd y) = false → (4 : Nat) = (4 : Nat) ∧ (4 : Nat) = (4 : Nat) ∧ (4 : Nat) = (4 : Nat) ∧ (List.getD (Prod.fst y) (0 : Nat) (0 : Int) = List.getD (Option.getD o [(0
  : Int), (0 : Int), (0 : Int), (0 : Int)]) (0 : Nat) (0 : Int) ∧ List.getD (Prod.fst y) (1 : Nat) (0 : Int) = List.getD (Option.getD o [(0 : Int), (0 : Int), (0 : Int), (0 : Int)])
  (1 : Nat) (0 : Int) ∧ List.getD (Prod.fst y) (2 : Nat) (0 : Int) = List.getD (Option.getD o [(0 : Int), (0 : Int), (0 : Int), (0 : Int)]) (2 : Nat) (0 : Int) ∧ List.getD (Prod.fst
  y) (3 : Nat) (0 : Int) = List.getD (Option.getD o [(0 : Int), (0 : Int), (0 : Int), (0 : Int)]) (3 : Nat) (0 : Int) ∧ True) ∧ true = Option.isSome o ∧ True)) ∧ ((Ex.op x == (11 :
  Int)) = false → False))))))))))))
  ) := by kernel_rfl
--@end
theorem attr_tab : ∀ k : Nat, k < 16 → [[(0 : Int), 0, 0, 0], [0, 0, 0, 0], [0, 0, 0, 0], [0, 0, 0, 0], [0, 0, 0, 0], [0, 0, 0, 1], [0, 0, 1, 0], [0, 1, 0, 0], [0, 1, 0, 0], [0, 0, 0, 0], [1, 0, 0, 0], [1, 0, 0, 0], [0, 0, 0, 0], [0, 0, 0, 0], [0, 0, 0, 0], [0, 0, 0, 0]][k]? = some (attrD (k : Int)) := by decide
theorem is4_row {d : List Int} (h : Is4 d) : [d.getD 0 0, d.getD 1 0, d.getD 2 0, d.getD 3 0] = d := by
  obtain ⟨a, b, c, e, rfl⟩ := h
  rfl
theorem unitL_get {l : List Ex} {k : Nat} {y : Ex} (h : l[k]? = some y) : unitL (l.drop k) = (unitX y).bind fun d => (unitL (l.drop (k + 1))).bind fun ds => some (d :: ds) := by rw [drop_get h, unitL]
def EqB (o : Option (List Int)) (b : Bool) (d : List Int) : Prop := (b = false → (0 = (o.getD [0, 0, 0, 0]).getD 0 0 ∧ 0 = (o.getD [0, 0, 0, 0]).getD 1 0 ∧ 0 = (o.getD [0, 0, 0, 0]).getD 2 0 ∧ 0 = (o.getD [0, 0, 0, 0]).getD 3 0) ∧ false = o.isSome) ∧
  (b = true → (d.getD 0 0 = (o.getD [0, 0, 0, 0]).getD 0 0 ∧ d.getD 1 0 = (o.getD [0, 0, 0, 0]).getD 1 0 ∧ d.getD 2 0 = (o.getD [0, 0, 0, 0]).getD 2 0 ∧ d.getD 3 0 = (o.getD [0, 0, 0, 0]).getD 3 0) ∧ true = o.isSome)
theorem leafN {o : Option (List Int)} (h : o = none) : (0 = (o.getD [0, 0, 0, 0]).getD 0 0 ∧ 0 = (o.getD [0, 0, 0, 0]).getD 1 0 ∧ 0 = (o.getD [0, 0, 0, 0]).getD 2 0 ∧ 0 = (o.getD [0, 0, 0, 0]).getD 3 0) ∧ false = o.isSome := by subst h; exact ⟨⟨rfl, rfl, rfl, rfl⟩, rfl⟩
theorem eqB_of {o : Option (List Int)} {b : Bool} {d : List Int} (h1 : b = false → o = none) (h2 : b = true → o = some d) : EqB o b d := by
  refine ⟨fun h => leafN (h1 h), fun h => ?_⟩
  rw [h2 h]; exact ⟨⟨rfl, rfl, rfl, rfl⟩, rfl⟩
theorem eqB_if {P : Prop} [Decidable P] {d : List Int} : EqB (if P then some d else none) (decide P) d :=
  eqB_of (fun h => by rw [if_neg (by simpa using h)]) (fun h => by rw [if_pos (by simpa using h)])
theorem powB (o : Option (List Int)) : EqB o o.isSome (o.getD [0, 0, 0, 0]) := by
  cases o with
  | none => exact eqB_of (fun _ => rfl) (fun h => by simp at h)
  | some d => exact eqB_of (fun h => by simp at h) (fun _ => rfl)
theorem unit_aux : ∀ (m : Nat), m ≤ 1000000000 → ∀ (x : Ex), x.sz < m → formX x = true → PureC E 21 [rulesV, exA x] (optV (unitX x)) := by
  intro m
  induction m with
  | zero => intro _ x h; omega
  | succ m ih =>
    intro hb x hm hf
    have hF : FnsOk E (Funit m) := addL2_ok E_ok (addS_ok Funit0_ok (Sunit_ok fun x h => ih (by omega) x h)) _ _ _
    refine pure_of_call E_ok (callF_ok E_ok Funit0_ok fun f N c => (vc_ok E_ok hF 800 f N c).1) ?_
    rw [cond_unit]
    have hsz := x.sz_eq
    have hlen := Ex.szL_len x.l
    obtain ⟨⟨f1, f2, f3, f4, f5, f6, f7, f8, f9, f10⟩, f11, f12⟩ := (formX_iff x).1 hf
    simp only [bif_true, bif_false, bif_nt, bif_tf, bif_ft, beq_iff_eq, bne_iff_ne, beq_eq_false_iff_ne, bne_eq_false_iff_eq, decide_eq_true_eq, decide_eq_false_iff_not, Bool.or_eq_true, Bool.or_eq_false_iff, Bool.not_eq_true', Bool.not_eq_false', Bool.and_eq_true, Bool.and_true, Bool.true_and, Bool.and_eq_false_iff, beq_self_eq_true, mm2_max, mm2_min, ne_eq, and_true, true_and, Bool.true_eq_false, Bool.false_eq_true, false_or, or_false, true_implies, imp_self, Int.ofNat_eq_natCast, not_true_eq_false, not_false_eq_true, Decidable.not_not, List.getElem?_cons_zero, List.getElem?_cons_succ, Option.some.injEq, forall_eq', forall_eq, List.set_cons_zero, List.set_cons_succ, List.length_cons, List.length_nil, List.getD_cons_zero, List.getD_cons_succ, tn0, tn1, tn2, tn3, Int.le_refl, Nat.le_refl, Nat.reduceAdd, Int.reduceAdd, Int.reduceLE, Nat.reduceLeDiff, cn4, cn16, Ex.eta, List.drop_zero, List.take_length]
    rw [unitX_eq]
    refine And.intro (fun h1 => ?_) (fun h1 => And.intro (fun h2 => ⟨by omega, by omega, fun y hy => ?_⟩) (fun h2 => ?_))
    · rw [if_pos h1]
      simp only [Option.getD_some, Option.isSome_some, Ex.u, List.getD_cons_zero, List.getD_cons_succ, and_self]
    · rw [if_neg h1, if_pos h2]
      obtain ⟨k, hk⟩ : ∃ k : Nat, x.n = k := ⟨x.n.toNat, by omega⟩
      rw [hk] at hy ⊢
      rw [Int.toNat_natCast, attr_tab k (by omega)] at hy
      cases hy
      simp only [Option.getD_some, Option.isSome_some, and_self]
    · rw [if_neg h1, if_neg h2]
      refine ⟨fun s y => (s = true ↔ 0 < y.k) ∧ y.k ≤ x.l.length ∧ y.D.length = y.k ∧ unitL x.l = (unitL (x.l.drop y.k)).bind (fun ds => some (y.D ++ ds)) ∧ (∀ d ∈ y.D, Is4 d) ∧ y.r = x.l.length - y.k, .inr ⟨⟨0, x.l.length, []⟩, ⟨by simp, (by dsimp only; omega), rfl, by simp, by simp, rfl⟩, rfl⟩, ?_, ?_⟩
      · rintro y ⟨hs, hk, hD, hv, h4, hr⟩
        have hk0 := hs.1 rfl
        refine And.intro (fun hq => ⟨by omega, by omega, fun z hz => ?_⟩) (fun hq => ?_)
        · have hz : x.l[y.k]? = some z := hz
          rw [unitL_get hz] at hv
          have hzs := Ex.sz_mem (List.mem_of_getElem? hz)
          have hzf := formL_iff.1 f12 z (List.mem_of_getElem? hz)
          refine ⟨rfl, ⟨by omega, hzf⟩, fun ho => ?_, fun ho => ?_⟩
          · have : unitL x.l = none := by rw [hv, Option.isSome_eq_false_iff.1 ho |> Option.isNone_iff_eq_none.1]; rfl
            rw [this]
            exact leafN rfl
          · obtain ⟨d, hd⟩ := Option.isSome_iff_exists.1 ho
            have hd4 := unitX_4 z hzf hd
            rw [hd] at hv ⊢
            simp only [Option.getD_some, is4_row hd4]
            refine ⟨⟨by omega, by omega⟩, .inl ⟨⟨y.k + 1, x.l.length - (y.k + 1), y.D ++ [d]⟩, ⟨by simp, (by dsimp only; omega), by simp [hD], ?_, ?_, rfl⟩, (by dsimp only; omega), ⟨by simp, wr64 (by omega) (by omega)⟩, rfl⟩⟩
            · rw [hv]
              simp only [Option.bind_some]
              cases unitL (x.l.drop (y.k + 1)) with
              | none => rfl
              | some ds => simp
            · intro e he
              rcases List.mem_append.1 he with he | he
              · exact h4 e he
              · rw [List.mem_singleton.1 he]; exact hd4
        · rw [drop_end (by omega)] at hv
          have hv : unitL x.l = some y.D := by rw [hv, unitL]; simp
          rw [hv, Option.bind_some]
          have hg : ∀ i, i < y.D.length → Is4 (y.D.getD i []) := fun i hi => by
            rw [List.getD_eq_getElem?_getD, List.getElem?_eq_getElem hi]
            exact h4 _ (List.getElem_mem hi)
          have hDl : y.D.length = x.l.length := by omega
          have eqB : ruleD x.op y.D = (if y.D.getD 0 [] = y.D.getD 1 [] then some (y.D.getD 0 []) else none) → 2 ≤ y.D.length → EqB (ruleD x.op y.D) (eq4 (y.D.getD 0 []) (y.D.getD 1 [])) (y.D.getD 0 []) := by
            intro h1 h2
            rw [h1, eq4_iff (hg 0 (by omega)) (hg 1 (by omega))]
            exact eqB_if
          refine And.intro (fun a => ⟨by omega, by omega, eqB ?_ (by omega)⟩) (fun a3 => And.intro (fun a => ⟨by omega, by omega, eqB ?_ (by omega)⟩) (fun a4 => And.intro (fun a => ⟨by omega, by omega, eqB ?_ (by omega)⟩) (fun a6 => And.intro (fun a => ⟨by omega, by omega, eqB ?_ (by omega)⟩) (fun a7 => And.intro (fun a => ⟨by omega, by omega, ?_⟩) (fun a5 => And.intro (fun a => ⟨by omega, by omega, ?_⟩) (fun a8 => And.intro (fun a => ⟨by omega, by omega, ?_⟩) (fun a9 => And.intro (fun a => ⟨by omega, by omega, ?_⟩) (fun a10 => And.intro (fun a => ⟨by omega, by omega, ?_⟩) (fun a11 => ?_)))))))))
          · unfold ruleD; rw [if_neg (by omega), if_neg (by omega), if_neg (by omega)]
          · unfold ruleD; rw [if_neg (by omega), if_neg (by omega), if_neg (by omega)]
          · unfold ruleD; rw [if_neg (by omega), if_neg (by omega), if_neg (by omega)]
          · unfold ruleD; rw [if_neg (by omega), if_neg (by omega), if_neg (by omega)]
          · have : ruleD x.op y.D = cmb 1 (y.D.getD 0 []) (y.D.getD 1 []) := by unfold ruleD; rw [if_pos a]
            rw [this]; exact powB _
          · have : ruleD x.op y.D = cmb (-1) (y.D.getD 0 []) (y.D.getD 1 []) := by unfold ruleD; rw [if_neg (by omega), if_pos (by omega)]
            rw [this]; exact powB _
          · have : ruleD x.op y.D = cmb (-1) (y.D.getD 0 []) (y.D.getD 1 []) := by unfold ruleD; rw [if_neg (by omega), if_pos (by omega)]
            rw [this]; exact powB _
          · have : ruleD x.op y.D = cmb (-1) (y.D.getD 0 []) (y.D.getD 1 []) := by unfold ruleD; rw [if_neg (by omega), if_pos (by omega)]
            rw [this]; exact powB _
          · have : ruleD x.op y.D = (if y.D.getD 0 [] = y.D.getD 1 [] ∧ y.D.getD 2 [] = y.D.getD 3 [] then some (y.D.getD 2 []) else none) := by unfold ruleD; rw [if_neg (by omega), if_neg (by omega), if_pos a]
            rw [this]
            rw [eq4_iff (hg 0 (by omega)) (hg 1 (by omega)), eq4_iff (hg 2 (by omega)) (hg 3 (by omega))]
            refine And.intro (fun h => ?_) (fun h => ?_)
            · rw [if_neg (by
                rintro ⟨p, q⟩
                rcases h with h | h
                · exact of_decide_eq_false h p
                · exact of_decide_eq_false h q)]
              exact leafN rfl
            · rw [if_pos ⟨of_decide_eq_true h.1, of_decide_eq_true h.2⟩]
              exact ⟨⟨rfl, rfl, rfl, rfl⟩, rfl⟩
          · omega
      · rintro y ⟨hs, hk, hD, hv, h4, hr⟩
        have hk0 : y.k = 0 := by
          rcases Nat.eq_zero_or_pos y.k with h | h
          · exact h
          · have := hs.2 h; simp at this
        have hD0 : y.D = [] := List.eq_nil_of_length_eq_zero (by omega)
        refine And.intro (fun hq => ⟨by omega, by omega, fun z hz => ?_⟩) (fun hq => ?_)
        · have hz : x.l[y.k]? = some z := hz
          rw [unitL_get hz] at hv
          have hzs := Ex.sz_mem (List.mem_of_getElem? hz)
          have hzf := formL_iff.1 f12 z (List.mem_of_getElem? hz)
          refine ⟨rfl, ⟨by omega, hzf⟩, fun ho => ?_, fun ho => ?_⟩
          · have : unitL x.l = none := by rw [hv, Option.isSome_eq_false_iff.1 ho |> Option.isNone_iff_eq_none.1]; rfl
            rw [this]
            exact leafN rfl
          · obtain ⟨d, hd⟩ := Option.isSome_iff_exists.1 ho
            have hd4 := unitX_4 z hzf hd
            rw [hd] at hv ⊢
            simp only [Option.getD_some, is4_row hd4]
            rw [hk0, hD0] at hv
            refine .inl ⟨⟨1, x.l.length - 1, [d]⟩, ⟨by simp, (by dsimp only; omega), rfl, ?_, ?_, rfl⟩, (by dsimp only; omega), ⟨rfl, by rw [hk0]; rfl⟩, rfl⟩
            · rw [hv]
              simp only [Option.bind_some]
              show ((unitL (x.l.drop (0 + 1))).bind fun ds => some (d :: ds)).bind (fun ds => some ([] ++ ds)) = (unitL (x.l.drop 1)).bind fun ds => some ([d] ++ ds)
              cases unitL (x.l.drop (0 + 1)) with
              | none => rfl
              | some ds => rfl
            · intro e he
              rw [List.mem_singleton.1 he]; exact hd4
        · omega
end Go.Proofs.YtpllflefaccmkaaDoor

/- Chapter 17: Attr, Unit; the reference's. -/
namespace Go.Proofs.YtpllflefaccmkaaDoor
open Go
set_option linter.unusedVariables false
set_option linter.unusedSimpArgs false
set_option maxRecDepth 100000
def attrP (a : Int) : List Int × Int := if 0 ≤ a ∧ a < 16 then (attrD a, 0) else ([0, 0, 0, 0], 1)
def errV (p : List Int × Int) : SV thy := .tup [dimV p.1, .int false .i64 p.2]
--@cond attr | 11 | F0 | 400 | (a : Int) | [.int false .i64 a] | (p : List Int × Int) | errV p
theorem cond_attr (a : Int) (p : List Int × Int) : callF E F0 (vc E F0 400) 11 [.int false .i64 a] hp0 0 (fun r => ret E (patch hp0 0 r) r.v (errV p)) = (
  ∃ (Q : Bool → Prop), ((decide (a < (0 : Int)) = true → Q true) ∧ (decide (a < (0 : Int)) = false → (decide (a ≥ (16 : Int)) = true → Q true) ∧ (decide (a ≥ (16 : Int)) = false → Q
  false))) ∧ (Q true → (4 : Nat) = (4 : Nat) ∧ (4 : Nat) = (4 : Nat) ∧ (4 : Nat) = (4 : Nat) ∧ ((0 : Int) = List.getD (Prod.fst p) (0 : Nat) (0 : Int) ∧ (0 : Int) = List.getD
  (Prod.fst p) (1 : Nat) (0 : Int) ∧ (0 : Int) = List.getD (Prod.fst p) (2 : Nat) (0 : Int) ∧ (0 : Int) = List.getD (Prod.fst p) (3 : Nat) (0 : Int) ∧ True) ∧ (1 : Int) = Prod.snd p
  ∧ True) ∧ (Q false → (0 : Int) ≤ a ∧ a + (1 : Int) ≤ (↑(16 : Nat) : Int) ∧ ∀ (x : List Int), [[(0 : Int), (0 : Int), (0 : Int), (0 : Int)], [(0 : Int), (0 : Int), (0 : Int), (0 :
  Int)], [(0 : Int), (0 : Int), (0 : Int), (0 : Int)], [(0 : Int), (0 : Int), (0 : Int), (0 : Int)], [(0 : Int), (0 : Int), (0 : Int), (0 : Int)], [(0 : Int), (0 : Int), (0 : Int),
  (1 : Int)], [(0 : Int), (0 : Int), (1 : Int), (0 : Int)], [(0 : Int), (1 : Int), (0 : Int), (0 : Int)], [(0 : Int), (1 : Int), (0 : Int), (0 : Int)], [(0 : Int), (0 : Int), (0 :
  Int), (0 : Int)], [(1 : Int), (0 : Int), (0 : Int), (0 : Int)], [(1 : Int), (0 : Int), (0 : Int), (0 : Int)], [(0 : Int), (0 : Int), (0 : Int), (0 : Int)], [(0 : Int), (0 : Int),
  (0 : Int), (0 : Int)], [(0 : Int), (0 : Int), (0 : Int), (0 : Int)], [(0 : Int), (0 : Int), (0 : Int), (0 : Int)]][Int.toNat a]? = some x → (4 : Nat) = (4 : Nat) ∧ (4 : Nat) = (4 :
  Nat) ∧ (List.getD x (0 : Nat) (0 : Int) = List.getD (Prod.fst p) (0 : Nat) (0 : Int) ∧ List.getD x (1 : Nat) (0 : Int) = List.getD (Prod.fst p) (1 : Nat) (0 : Int) ∧ List.getD x (2
  : Nat) (0 : Int) = List.getD (Prod.fst p) (2 : Nat) (0 : Int) ∧ List.getD x (3 : Nat) (0 : Int) = List.getD (Prod.fst p) (3 : Nat) (0 : Int) ∧ True) ∧ (0 : Int) = Prod.snd p ∧
  True)
  ) := by kernel_rfl
--@end
theorem errP_of {p : List Int × Int} {d : List Int} {e : Int} (h : p = (d, e)) : (d.getD 0 0 = p.1.getD 0 0 ∧ d.getD 1 0 = p.1.getD 1 0 ∧ d.getD 2 0 = p.1.getD 2 0 ∧ d.getD 3 0 = p.1.getD 3 0) ∧ e = p.2 := by
  rw [h]; exact ⟨⟨rfl, rfl, rfl, rfl⟩, rfl⟩
theorem errP_0 {p : List Int × Int} {e : Int} (h : p = ([0, 0, 0, 0], e)) : (0 = p.1.getD 0 0 ∧ 0 = p.1.getD 1 0 ∧ 0 = p.1.getD 2 0 ∧ 0 = p.1.getD 3 0) ∧ e = p.2 := by
  rw [h]; exact ⟨⟨rfl, rfl, rfl, rfl⟩, rfl⟩
theorem attr_pure (a : Int) : PureC E 11 [.int false .i64 a] (errV (attrP a)) := by
  refine pure_of_call E_ok (call0 400) ?_
  rw [cond_attr]
  simp only [bif_true, bif_false, bif_nt, bif_tf, bif_ft, beq_iff_eq, bne_iff_ne, beq_eq_false_iff_ne, bne_eq_false_iff_eq, decide_eq_true_eq, decide_eq_false_iff_not, Bool.or_eq_true, Bool.or_eq_false_iff, Bool.not_eq_true', Bool.not_eq_false', Bool.and_eq_true, Bool.and_true, Bool.true_and, Bool.and_eq_false_iff, beq_self_eq_true, mm2_max, mm2_min, ne_eq, and_true, true_and, Bool.true_eq_false, Bool.false_eq_true, false_or, or_false, true_implies, imp_self, Int.ofNat_eq_natCast, not_true_eq_false, not_false_eq_true, Decidable.not_not, List.getElem?_cons_zero, List.getElem?_cons_succ, Option.some.injEq, forall_eq', forall_eq, List.set_cons_zero, List.set_cons_succ, List.length_cons, List.length_nil, List.getD_cons_zero, List.getD_cons_succ, tn0, tn1, tn2, tn3, Int.le_refl, Nat.le_refl, Nat.reduceAdd, Int.reduceAdd, Int.reduceLE, Nat.reduceLeDiff, cn4, cn16]
  have y1 : ¬ (0 ≤ a ∧ a < 16) → attrP a = ([0, 0, 0, 0], 1) := fun h => by unfold attrP; rw [if_neg h]
  have y2 : (0 ≤ a ∧ a < 16) → attrP a = (attrD a, 0) := fun h => by unfold attrP; rw [if_pos h]
  refine ⟨fun b => b = true ↔ ¬ (0 ≤ a ∧ a < 16), And.intro (fun h => ⟨fun _ => by omega, fun _ => rfl⟩) (fun h => And.intro (fun h' => ⟨fun _ => by omega, fun _ => rfl⟩) (fun h' => ⟨fun h => (by cases h), fun h => by omega⟩)), fun h => ?_, fun h => ?_⟩
  · exact errP_0 (y1 (h.1 rfl))
  · have h : 0 ≤ a ∧ a < 16 := Decidable.byContradiction fun hn => by have := h.2 hn; cases this
    refine ⟨by omega, by omega, fun y hy => ?_⟩
    obtain ⟨k, hk⟩ : ∃ k : Nat, a = k := ⟨a.toNat, by omega⟩
    rw [hk] at hy y2
    rw [Int.toNat_natCast, attr_tab k (by omega)] at hy
    cases hy
    rw [hk]
    exact errP_of (y2 (by omega))
--@cond attr17 | 12 | F0 | 400 | (a : Int) | [.int false .i64 a] | (p : List Int × Int) | errV p
--@end
--@cond comb | 46 | F0 | 2000 | (a b : List Int) (s : Int) | [dimV a, dimV b, .int false .i64 s] | (o : Option (List Int)) | optV o
--@end
noncomputable def Sform17B : Sum thy := sumP dExp (fun x => x.1.sz < 1000000000) fun x => .bool false (formX x.1)
theorem Sform17B_ok : SumOk E 20 Sform17B := sumP_ok E_ok (good_of (f := 20) rfl) fun x h => form17_aux _ (Nat.le_refl _) _ h
theorem Srules_ok : SumOk E 22 (sumO rulesPre) := sumO_ok E_ok (good_of (f := 22) rfl) fun args v h => by
  unfold rulesPre at h
  split at h
  · cases h; exact rules_pure
  · cases h
theorem SunitB_ok : SumOk E 21 (Sunit 1000000000) := Sunit_ok fun x h => unit_aux _ (Nat.le_refl _) x h
noncomputable def FUnit : Fns thy := addS (addS (addS F0 20 Sform17B) 22 (sumO rulesPre)) 21 (Sunit 1000000000)
theorem FUnit_ok : FnsOk E FUnit := addS_ok (addS_ok (addS_ok F0_ok Sform17B_ok) Srules_ok) SunitB_ok
--@cond Unit | 9 | FUnit | 400 | (x : Ex) | [exA x] | (p : List Int × Int) | errV p
theorem cond_Unit (x : Ex) (p : List Int × Int) : callF E FUnit (vc E FUnit 400) 9 [exA x] hp0 0 (fun r => ret E (patch hp0 0 r) r.v (errV p)) = (
  Ex.sz (Ex.mk (Ex.op x) (Ex.n x) (Ex.d0 x) (Ex.d1 x) (Ex.d2 x) (Ex.d3 x) (Ex.l x)) + (1 : Nat) ≤ (1000000000 : Nat) ∧ ((!formX (Ex.mk (Ex.op x) (Ex.n x) (Ex.d0 x) (Ex.d1 x) (Ex.d2
  x) (Ex.d3 x) (Ex.l x))) = true → (4 : Nat) = (4 : Nat) ∧ (4 : Nat) = (4 : Nat) ∧ (4 : Nat) = (4 : Nat) ∧ ((0 : Int) = List.getD (Prod.fst p) (0 : Nat) (0 : Int) ∧ (0 : Int) =
  List.getD (Prod.fst p) (1 : Nat) (0 : Int) ∧ (0 : Int) = List.getD (Prod.fst p) (2 : Nat) (0 : Int) ∧ (0 : Int) = List.getD (Prod.fst p) (3 : Nat) (0 : Int) ∧ True) ∧ (1 : Int) =
  Prod.snd p ∧ True) ∧ ((!formX (Ex.mk (Ex.op x) (Ex.n x) (Ex.d0 x) (Ex.d1 x) (Ex.d2 x) (Ex.d3 x) (Ex.l x))) = false → SV.pmap rulesEs = rulesV ∧ (Ex.sz (Ex.mk (Ex.op x) (Ex.n x)
  (Ex.d0 x) (Ex.d1 x) (Ex.d2 x) (Ex.d3 x) (Ex.l x)) + (1 : Nat) ≤ (1000000000 : Nat) ∧ formX (Ex.mk (Ex.op x) (Ex.n x) (Ex.d0 x) (Ex.d1 x) (Ex.d2 x) (Ex.d3 x) (Ex.l x)) = true) ∧ ∀
  (o : Option (List Int)), o = unitX (Ex.mk (Ex.op x) (Ex.n x) (Ex.d0 x) (Ex.d1 x) (Ex.d2 x) (Ex.d3 x) (Ex.l x)) → (4 : Nat) = (4 : Nat) ∧ ((!Option.isSome o) = true → (4 : Nat) = (4
  : Nat) ∧ (4 : Nat) = (4 : Nat) ∧ (4 : Nat) = (4 : Nat) ∧ (List.getD (Option.getD o [(0 : Int), (0 : Int), (0 : Int), (0 : Int)]) (0 : Nat) (0 : Int) = List.getD (Prod.fst p) (0 :
  Nat) (0 : Int) ∧ List.getD (Option.getD o [(0 : Int), (0 : Int), (0 : Int), (0 : Int)]) (1 : Nat) (0 : Int) = List.getD (Prod.fst p) (1 : Nat) (0 : Int) ∧ List.getD (Option.getD o
  [(0 : Int), (0 : Int), (0 : Int), (0 : Int)]) (2 : Nat) (0 : Int) = List.getD (Prod.fst p) (2 : Nat) (0 : Int) ∧ List.getD (Option.getD o [(0 : Int), (0 : Int), (0 : Int), (0 :
  Int)]) (3 : Nat) (0 : Int) = List.getD (Prod.fst p) (3 : Nat) (0 : Int) ∧ True) ∧ (170 : Int) = Prod.snd p ∧ True) ∧ ((!Option.isSome o) = false → (4 : Nat) = (4 : Nat) ∧ (4 : Nat)
  = (4 : Nat) ∧ (4 : Nat) = (4 : Nat) ∧ (List.getD (Option.getD o [(0 : Int), (0 : Int), (0 : Int), (0 : Int)]) (0 : Nat) (0 : Int) = List.getD (Prod.fst p) (0 : Nat) (0 : Int) ∧
  List.getD (Option.getD o [(0 : Int), (0 : Int), (0 : Int), (0 : Int)]) (1 : Nat) (0 : Int) = List.getD (Prod.fst p) (1 : Nat) (0 : Int) ∧ List.getD (Option.getD o [(0 : Int), (0 :
  Int), (0 : Int), (0 : Int)]) (2 : Nat) (0 : Int) = List.getD (Prod.fst p) (2 : Nat) (0 : Int) ∧ List.getD (Option.getD o [(0 : Int), (0 : Int), (0 : Int), (0 : Int)]) (3 : Nat) (0
  : Int) = List.getD (Prod.fst p) (3 : Nat) (0 : Int) ∧ True) ∧ (0 : Int) = Prod.snd p ∧ True))
  ) := by kernel_rfl
--@end
def okP (o : Option (List Int)) : List Int × Int := match o with | some d => (d, 0) | none => ([0, 0, 0, 0], 170)
def unitP (x : Ex) : List Int × Int := if formX x = true then okP (unitX x) else ([0, 0, 0, 0], 1)
theorem Unit_pure (x : Ex) (hs : x.sz < 1000000000) : PureC E 9 [exA x] (errV (unitP x)) := by
  refine pure_of_call E_ok (callOk_of E_ok FUnit_ok 400) ?_
  rw [cond_Unit]
  simp only [bif_true, bif_false, bif_nt, bif_tf, bif_ft, beq_iff_eq, bne_iff_ne, beq_eq_false_iff_ne, bne_eq_false_iff_eq, decide_eq_true_eq, decide_eq_false_iff_not, Bool.or_eq_true, Bool.or_eq_false_iff, Bool.not_eq_true', Bool.not_eq_false', Bool.and_eq_true, Bool.and_true, Bool.true_and, Bool.and_eq_false_iff, beq_self_eq_true, mm2_max, mm2_min, ne_eq, and_true, true_and, Bool.true_eq_false, Bool.false_eq_true, false_or, or_false, true_implies, imp_self, Int.ofNat_eq_natCast, not_true_eq_false, not_false_eq_true, Decidable.not_not, List.getElem?_cons_zero, List.getElem?_cons_succ, Option.some.injEq, forall_eq', forall_eq, List.set_cons_zero, List.set_cons_succ, List.length_cons, List.length_nil, List.getD_cons_zero, List.getD_cons_succ, tn0, tn1, tn2, tn3, Int.le_refl, Nat.le_refl, Nat.reduceAdd, Int.reduceAdd, Int.reduceLE, Nat.reduceLeDiff, cn4, cn16, Ex.eta]
  unfold unitP
  refine ⟨by omega, fun h => ?_, fun h => ⟨rfl, ⟨by omega, h⟩, fun ho => ?_, fun ho => ?_⟩⟩
  · rw [h]; exact errP_0 rfl
  · rw [if_pos h, Option.isNone_iff_eq_none.1 (Option.isSome_eq_false_iff.1 ho)]
    exact errP_0 rfl
  · obtain ⟨d, hd⟩ := Option.isSome_iff_exists.1 ho
    rw [if_pos h, hd]
    exact errP_of rfl
end Go.Proofs.YtpllflefaccmkaaDoor

/- Chapter 17: the reference's Unit. -/
namespace Go.Proofs.YtpllflefaccmkaaDoor
open Go
set_option linter.unusedVariables false
set_option linter.unusedSimpArgs false
set_option maxRecDepth 100000
--@cond unit17 | 24 | F170>(Funit17 m) | 800 | (m : Nat) (x : Ex) | [exA x] | (o : Option (List Int)) | optV o
--@end
theorem q2 {a b : Option (List Int)} {Kt Kf : Prop} (h1 : (a = none ∨ b = none) → Kt) (h2 : ∀ c d, a = some c → b = some d → Kf) : ∃ Q : Bool → Prop, ((a.isSome = false → Q true) ∧ (a.isSome = true → Q (!b.isSome))) ∧ (Q true → Kt) ∧ (Q false → Kf) := by
  cases a with
  | none => exact ⟨fun q => q = true, ⟨fun _ => rfl, fun h => by simp at h⟩, fun _ => h1 (.inl rfl), fun h => (by cases h)⟩
  | some c =>
    cases b with
    | none => exact ⟨fun q => q = true, ⟨fun h => by simp at h, fun _ => rfl⟩, fun _ => h1 (.inr rfl), fun h => (by cases h)⟩
    | some d => exact ⟨fun q => q = false, ⟨fun h => by simp at h, fun _ => rfl⟩, fun h => (by cases h), fun _ => h2 c d rfl rfl⟩
end Go.Proofs.YtpllflefaccmkaaDoor

/- Chapter 17: laws of units, without the program. -/
namespace Go.Proofs.YtpllflefaccmkaaDoor
open Go
set_option linter.unusedVariables false
set_option linter.unusedSimpArgs false
/-- four small numbers -/
def R3 (d : List Int) : Prop := ∃ a b c e : Int, d = [a, b, c, e] ∧ (-3 ≤ a ∧ a ≤ 3) ∧ (-3 ≤ b ∧ b ≤ 3) ∧ (-3 ≤ c ∧ c ≤ 3) ∧ (-3 ≤ e ∧ e ≤ 3)
theorem cmb_3 {s : Int} {a b d : List Int} (h : cmb s a b = some d) : R3 d := by
  unfold cmb at h
  split at h
  · rename_i hc
    cases h
    simp only [Bool.and_eq_true] at hc
    exact ⟨_, _, _, _, rfl, (in3_iff _).1 hc.1.1.1, (in3_iff _).1 hc.1.1.2, (in3_iff _).1 hc.1.2, (in3_iff _).1 hc.2⟩
  · cases h
theorem attrD_3 (n : Int) : R3 (attrD n) := by
  unfold attrD
  split
  · exact ⟨_, _, _, _, rfl, by decide, by decide, by decide, by decide⟩
  split
  · exact ⟨_, _, _, _, rfl, by decide, by decide, by decide, by decide⟩
  split
  · exact ⟨_, _, _, _, rfl, by decide, by decide, by decide, by decide⟩
  split <;> exact ⟨_, _, _, _, rfl, by decide, by decide, by decide, by decide⟩
theorem writ_3 {a b c d : Int} (h : writU [a, b, c, d] = true) : R3 [a, b, c, d] := by
  rw [writU_def] at h
  simp only [Bool.and_eq_true, List.all_cons, in1, decide_eq_true_eq] at h
  exact ⟨a, b, c, d, rfl, by omega, by omega, by omega, by omega⟩
theorem ruleD_3 {op : Int} {ds : List (List Int)} {d : List Int} (h : ruleD op ds = some d) (h4 : ∀ i, i < (if op = 11 then 4 else 2) → R3 (ds.getD i [])) : R3 d := by
  unfold ruleD at h
  split at h
  · exact cmb_3 h
  · split at h
    · exact cmb_3 h
    · split at h
      · rename_i h11
        split at h
        · cases h
          exact h4 2 (by rw [if_pos h11]; omega)
        · cases h
      · rename_i h11
        split at h
        · cases h
          exact h4 0 (by rw [if_neg h11]; omega)
        · cases h
mutual
theorem unitX_3 : ∀ (x : Ex) {d : List Int}, formX x = true → unitX x = some d → R3 d
  | .mk op n d0 d1 d2 d3 l, d, hf, h => by
    have hff := (formX_iff _).1 hf
    rw [unitX] at h
    split at h
    · cases h; exact writ_3 hff.2.1
    · split at h
      · cases h; exact attrD_3 n
      · rename_i h1 h2
        obtain ⟨ds, hds, h⟩ := Option.bind_eq_some_iff.1 h
        refine ruleD_3 h fun i hi => ?_
        simp only [formX, Bool.and_eq_true] at hf
        have hl := unitL_3 l hf.2 hds
        have hlen := unitL_len hds
        have ha : l.length = arity op := by
          have := hf.1
          simp only [headOk, Bool.and_eq_true, decide_eq_true_eq] at this
          exact this.1.1.2
        unfold arity at ha
        rw [if_neg (by omega)] at ha
        have : i < ds.length := by rw [hlen, ha]; exact hi
        rw [List.getD_eq_getElem?_getD, List.getElem?_eq_getElem this]
        exact hl _ (List.getElem_mem this)
theorem unitL_3 : ∀ (l : List Ex) {ds : List (List Int)}, formL l = true → unitL l = some ds → ∀ d ∈ ds, R3 d
  | [], ds, _, h => by simp only [unitL] at h; cases h; simp
  | x :: r, ds, hf, h => by
    simp only [formL, Bool.and_eq_true] at hf
    obtain ⟨d, ds', h1, h2, rfl⟩ := unitL_cons.1 h
    intro e he
    rcases List.mem_cons.1 he with rfl | he
    · exact unitX_3 x hf.1 h1
    · exact unitL_3 r hf.2 h2 e he
end
theorem unitP_of {x : Ex} (hf : formX x = true) : unitP x = okP (unitX x) := by unfold unitP; rw [if_pos hf]
/-- a part of an expression replaced -/
theorem parts {x : Ex} {d : List Int} (fx : formX x = true) (hx : unitX x = some d) : (∀ y ∈ x.l, ∃ e, unitX y = some e ∧ formX y = true) := by
  intro y hy
  have hff := (formX_iff x).1 fx
  have hfy := formL_iff.1 hff.2.2 y hy
  rw [unitX_eq] at hx
  split at hx
  · rename_i h1
    have := hff.1.2.2.2.2.2.2.1 (.inl h1)
    rw [List.eq_nil_of_length_eq_zero this] at hy; cases hy
  · split at hx
    · rename_i h1
      have := hff.1.2.2.2.2.2.2.1 (.inr h1)
      rw [List.eq_nil_of_length_eq_zero this] at hy; cases hy
    · obtain ⟨ds, hds, _⟩ := Option.bind_eq_some_iff.1 hx
      have : ∀ (l : List Ex) (ds : List (List Int)), unitL l = some ds → ∀ y ∈ l, ∃ e, unitX y = some e := by
        intro l
        induction l with
        | nil => intro ds _ y hy; cases hy
        | cons z r ih =>
          intro ds h y hy
          obtain ⟨e, ds', h1, h2, rfl⟩ := unitL_cons.1 h
          rcases List.mem_cons.1 hy with rfl | hy
          · exact ⟨e, h1⟩
          · exact ih ds' h2 y hy
      obtain ⟨e, he⟩ := this _ _ hds y hy
      exact ⟨e, he, hfy⟩
end Go.Proofs.YtpllflefaccmkaaDoor

/- Chapter 17: what the example calls again and again. -/
namespace Go.Proofs.YtpllflefaccmkaaDoor
open Go
set_option linter.unusedVariables false
set_option linter.unusedSimpArgs false
set_option maxRecDepth 100000
theorem cond_word_a : callF EL F2 (vc EL F2 2000) 27 [.str true [97]] hp0 0 (fun r => ret EL (patch hp0 0 r) r.v (.bool true true)) = (true = true) := by kernel_rfl
theorem word_a : PureC EL 27 [.str true [97]] (.bool true true) := pure_of_call EL_ok (callL2 2000) (by rw [cond_word_a])
theorem cond_word_b : callF EL F2 (vc EL F2 2000) 27 [.str true [98]] hp0 0 (fun r => ret EL (patch hp0 0 r) r.v (.bool true true)) = (true = true) := by kernel_rfl
theorem word_b : PureC EL 27 [.str true [98]] (.bool true true) := pure_of_call EL_ok (callL2 2000) (by rw [cond_word_b])
theorem cond_word_c : callF EL F2 (vc EL F2 2000) 27 [.str true [99]] hp0 0 (fun r => ret EL (patch hp0 0 r) r.v (.bool true true)) = (true = true) := by kernel_rfl
theorem word_c : PureC EL 27 [.str true [99]] (.bool true true) := pure_of_call EL_ok (callL2 2000) (by rw [cond_word_c])
def wordsAt : List (List Nat) := [[116, 121, 112, 101], [111, 119, 110, 101, 114], [114, 97, 105, 108, 119, 97, 121], [115, 104, 105, 112, 112, 101, 114], [99, 108, 97, 115, 115], [119, 101, 105, 103, 104, 116], [107, 109], [109, 105, 110, 117, 116, 101, 115], [119, 111, 114, 107, 105, 110, 103], [99, 111, 100, 101], [119, 111, 114, 116, 104], [99, 111, 115, 116], [109, 111, 110, 116, 104], [98, 101, 103, 105, 110], [112, 97, 114, 116, 115], [112, 97, 114, 116]]
theorem cond_fieldsAt : callF EL F2 (vc EL F2 2000) 76 [.str true [116, 121, 112, 101, 32, 111, 119, 110, 101, 114, 32, 114, 97, 105, 108, 119, 97, 121, 32, 115, 104, 105, 112, 112, 101, 114, 32, 99, 108, 97, 115, 115, 32, 119, 101, 105, 103, 104, 116, 32, 107, 109, 32, 109, 105, 110, 117, 116, 101, 115, 32, 119, 111, 114, 107, 105, 110, 103, 32, 99, 111, 100, 101, 32, 119, 111, 114, 116, 104, 32, 99, 111, 115, 116, 32, 109, 111, 110, 116, 104, 32, 98, 101, 103, 105, 110, 32, 112, 97, 114, 116, 115, 32, 112, 97, 114, 116]] hp0 0 (fun r => ret EL (patch hp0 0 r) r.v (.psl .strs wordsAt false)) = (wordsAt = wordsAt) := by kernel_rfl
theorem fieldsAt : PureC EL 76 [.str true [116, 121, 112, 101, 32, 111, 119, 110, 101, 114, 32, 114, 97, 105, 108, 119, 97, 121, 32, 115, 104, 105, 112, 112, 101, 114, 32, 99, 108, 97, 115, 115, 32, 119, 101, 105, 103, 104, 116, 32, 107, 109, 32, 109, 105, 110, 117, 116, 101, 115, 32, 119, 111, 114, 107, 105, 110, 103, 32, 99, 111, 100, 101, 32, 119, 111, 114, 116, 104, 32, 99, 111, 115, 116, 32, 109, 111, 110, 116, 104, 32, 98, 101, 103, 105, 110, 32, 112, 97, 114, 116, 115, 32, 112, 97, 114, 116]] (.psl .strs wordsAt false) := pure_of_call EL_ok (callL2 2000) (by rw [cond_fieldsAt])
def wordsKi : List (List Nat) := [[104, 105, 114, 101], [100, 101, 109, 117, 114, 114, 97, 103, 101], [102, 114, 101, 105, 103, 104, 116], [114, 101, 112, 97, 105, 114], [108, 111, 115, 115], [99, 108, 101, 97, 110, 105, 110, 103]]
theorem cond_fieldsKi : callF EL F2 (vc EL F2 2000) 76 [.str true [104, 105, 114, 101, 32, 100, 101, 109, 117, 114, 114, 97, 103, 101, 32, 102, 114, 101, 105, 103, 104, 116, 32, 114, 101, 112, 97, 105, 114, 32, 108, 111, 115, 115, 32, 99, 108, 101, 97, 110, 105, 110, 103]] hp0 0 (fun r => ret EL (patch hp0 0 r) r.v (.psl .strs wordsKi false)) = (wordsKi = wordsKi) := by kernel_rfl
theorem fieldsKi : PureC EL 76 [.str true [104, 105, 114, 101, 32, 100, 101, 109, 117, 114, 114, 97, 103, 101, 32, 102, 114, 101, 105, 103, 104, 116, 32, 114, 101, 112, 97, 105, 114, 32, 108, 111, 115, 115, 32, 99, 108, 101, 97, 110, 105, 110, 103]] (.psl .strs wordsKi false) := pure_of_call EL_ok (callL2 2000) (by rw [cond_fieldsKi])
def wordsUn : List (List Nat) := [[109, 111, 110, 101, 121], [109, 105, 110, 117, 116, 101], [107, 109], [107, 103]]
theorem cond_fieldsUn : callF EL F2 (vc EL F2 2000) 76 [.str true [109, 111, 110, 101, 121, 32, 109, 105, 110, 117, 116, 101, 32, 107, 109, 32, 107, 103]] hp0 0 (fun r => ret EL (patch hp0 0 r) r.v (.psl .strs wordsUn false)) = (wordsUn = wordsUn) := by kernel_rfl
theorem fieldsUn : PureC EL 76 [.str true [109, 111, 110, 101, 121, 32, 109, 105, 110, 117, 116, 101, 32, 107, 109, 32, 107, 103]] (.psl .strs wordsUn false) := pure_of_call EL_ok (callL2 2000) (by rw [cond_fieldsUn])
def wordsCa : List (List Nat) := [[109, 105, 110], [109, 97, 120], [100, 111, 119, 110], [117, 112], [104, 97, 108, 102]]
theorem cond_fieldsCa : callF EL F2 (vc EL F2 2000) 76 [.str true [109, 105, 110, 32, 109, 97, 120, 32, 100, 111, 119, 110, 32, 117, 112, 32, 104, 97, 108, 102]] hp0 0 (fun r => ret EL (patch hp0 0 r) r.v (.psl .strs wordsCa false)) = (wordsCa = wordsCa) := by kernel_rfl
theorem fieldsCa : PureC EL 76 [.str true [109, 105, 110, 32, 109, 97, 120, 32, 100, 111, 119, 110, 32, 117, 112, 32, 104, 97, 108, 102]] (.psl .strs wordsCa false) := pure_of_call EL_ok (callL2 2000) (by rw [cond_fieldsCa])
def wordPre : List (SV thy) → Option (SV thy)
  | [.str true s] => (match eqL s [97] || (eqL s [98] || eqL s [99]) with | true => some (.bool true true) | false => none)
  | _ => none
def fieldsPre : List (SV thy) → Option (SV thy)
  | [.str true s] => (match eqL s [116, 121, 112, 101, 32, 111, 119, 110, 101, 114, 32, 114, 97, 105, 108, 119, 97, 121, 32, 115, 104, 105, 112, 112, 101, 114, 32, 99, 108, 97, 115, 115, 32, 119, 101, 105, 103, 104, 116, 32, 107, 109, 32, 109, 105, 110, 117, 116, 101, 115, 32, 119, 111, 114, 107, 105, 110, 103, 32, 99, 111, 100, 101, 32, 119, 111, 114, 116, 104, 32, 99, 111, 115, 116, 32, 109, 111, 110, 116, 104, 32, 98, 101, 103, 105, 110, 32, 112, 97, 114, 116, 115, 32, 112, 97, 114, 116] with | true => some (.psl .strs wordsAt false) | false => (match eqL s [104, 105, 114, 101, 32, 100, 101, 109, 117, 114, 114, 97, 103, 101, 32, 102, 114, 101, 105, 103, 104, 116, 32, 114, 101, 112, 97, 105, 114, 32, 108, 111, 115, 115, 32, 99, 108, 101, 97, 110, 105, 110, 103] with | true => some (.psl .strs wordsKi false) | false => (match eqL s [109, 111, 110, 101, 121, 32, 109, 105, 110, 117, 116, 101, 32, 107, 109, 32, 107, 103] with | true => some (.psl .strs wordsUn false) | false => (match eqL s [109, 105, 110, 32, 109, 97, 120, 32, 100, 111, 119, 110, 32, 117, 112, 32, 104, 97, 108, 102] with | true => some (.psl .strs wordsCa false) | false => none))))
  | _ => none
noncomputable def F3 : Fns thy := addS (addS F2 27 (sumO wordPre)) 76 (sumO fieldsPre)
theorem F3_okL : FnsOk EL F3 := by
  refine addS_ok (addS_ok F2_okL (sumO_ok EL_ok (good_of rfl) fun args v h => ?_)) (sumO_ok EL_ok (good_of rfl) fun args v h => ?_)
  · unfold wordPre at h
    split at h
    · split at h
      · rename_i e
        cases h
        rw [Bool.or_eq_true] at e
        rw [Bool.or_eq_true] at e
        rcases e with e | e | e
        · rw [eqL_of e]; exact word_a
        · rw [eqL_of e]; exact word_b
        · rw [eqL_of e]; exact word_c
      · cases h
    · cases h
  · unfold fieldsPre at h
    split at h
    · split at h
      · rename_i e; cases h; rw [eqL_of e]; exact fieldsAt
      · split at h
        · rename_i e; cases h; rw [eqL_of e]; exact fieldsKi
        · split at h
          · rename_i e; cases h; rw [eqL_of e]; exact fieldsUn
          · split at h
            · rename_i e; cases h; rw [eqL_of e]; exact fieldsCa
            · cases h
    · cases h
theorem callL3 (n : Nat) : CallOk EL (callF EL F3 (vc EL F3 n)) := callF_ok EL_ok F3_okL fun f N c => (vc_ok EL_ok F3_okL n f N c).1
end Go.Proofs.YtpllflefaccmkaaDoor

/- A symbolic executor, part ZI: a call whose result stays as it is from then on (slices in it become lists). -/
namespace Go.Proofs.YtpllflefaccmkaaDoor
open Go.RowKit
set_option linter.unusedVariables false
set_option linter.unusedSimpArgs false

section
variable {Y : Thy} {E : Eng Y}
theorem frz_mem (hE : EngOk E) {H : Hp Y} {v v' : SV Y} {bs : List Nat} (o : FrzOk E H v v' bs) {B : Nat} {σ : Pl} {g : GH} {w : World} {u : Value} (hI : Inv E B σ H g w) (hd : Den E σ g v u) :
    g.le (frzG E H σ bs g w) ∧ Inv E B σ (fun b => match memB b bs with | true => frzB (H b) | false => H b) (frzG E H σ bs g w) w ∧ Den E σ (frzG E H σ bs g w) v' u := by
  have hle := frzG_le (bs := bs) hI
  have src : ∀ b y, (match memB b bs with | true => frzB (H b) | false => H b) = some y → ∃ y0, H b = some y0 ∧ (∀ σ g w r z, BlkOk E σ g w r z y0 → BlkOk E σ g w r z y) ∧ y0.fzc E ≤ y.fzc E ∧ (b ∈ bs → (y0.cells E).length ≤ y.fzc E) := by
    intro b y hy
    cases hm : memB b bs with
    | true =>
      rw [hm] at hy
      have hbm := memB_iff.1 hm
      obtain ⟨y0, h1, h2⟩ := o.blk b hbm
      have hy : frzB (H b) = some y := hy
      rw [h1] at hy
      obtain ⟨y', k1, k2, k3, k4, k5⟩ := frzB_spec hE h2
      rw [k1] at hy; cases hy
      exact ⟨y0, h1, k5, k3, fun _ => k4⟩
    | false =>
      rw [hm] at hy
      exact ⟨y, hy, fun _ _ _ _ _ h => h, Nat.le_refl _, fun hb => by rw [memB_iff.2 hb] at hm; cases hm⟩
  have ne : ∀ b, (match memB b bs with | true => frzB (H b) | false => H b) ≠ none → H b ≠ none := by
    intro b hb
    obtain ⟨y, hy⟩ := Option.ne_none_iff_exists'.1 hb
    obtain ⟨y0, h1, _⟩ := src b y hy
    rw [h1]; simp
  have hI0 := frzG_inv (bs := bs) (B' := 0) hI
  refine ⟨hle, ⟨hI0.gc, hI0.gm, fun b y hy => ?_, fun b b' r z z' h1 h2 => hI.inj b b' r z z' (ne b h1) (ne b' h2), hI.base, fun b y r z q v hy hs hv => ?_, fun b y r z hy hs => ?_, hI0.glob⟩, (o.den H σ g w B u _ (fun _ _ => rfl) hI hle frzG_kept hd).mono (fun b p h => by cases h) (.refl _)⟩
  · obtain ⟨y0, h1, h2, _⟩ := src b y hy
    obtain ⟨r, z, h3, h4⟩ := hI.blk b y0 h1
    exact ⟨r, z, h3, h2 _ _ _ _ _ (h4.mono (.refl _) hle rfl)⟩
  · obtain ⟨y0, h1, _, h3, h4⟩ := src b y hy
    rcases frzG_cell hv with ⟨_, b', hb', z', x', k1, k2, k3⟩ | k
    · obtain rfl := hI.inj b b' r z z' (by rw [h1]; simp) (by rw [k2]; simp) hs k1
      rw [h1] at k2; cases k2
      exact Nat.lt_of_lt_of_le k3 (h4 hb')
    · exact Nat.lt_of_lt_of_le (hI.fz b y0 r z q v h1 hs k) h3
  · obtain ⟨y0, h1, _⟩ := src b y hy
    exact hI.fm b y0 r z h1 hs
/-- a call, its result frozen -/
noncomputable def frzC (E : Eng Y) (gth : List (SV Y) → Option Y.Th) (n : Nat) (call : Nat → List (SV Y) → Hp Y → Nat → (Res Y → Prop) → Prop) (f : Nat) : Sum Y := fun args h i k =>
  call f args h i fun r =>
    (match r.rd with
    | none => frzK E gth (patch h i r) n r.v fun v' bs => forceNL (ltFilter i bs ++ r.mods) fun m => k ⟨v', r.n, m, fun b => (match memB b bs with | true => frzB (patch h i r b) | false => patch h i r b), none⟩
    | some _ => False)
theorem frzC_ok (hE : EngOk E) {gth : List (SV Y) → Option Y.Th} {n : Nat} {call : Nat → List (SV Y) → Hp Y → Nat → (Res Y → Prop) → Prop} (hcall : CallOk E call) {f : Nat} (hg : FnGood E.P f) : SumOk E f (frzC E gth n call f) := by
  refine ⟨hg, fun args h i k hD hk => ?_⟩
  obtain ⟨r, hk, hR, htri⟩ := hcall f args h i _ hD hk
  split at hk
  case h_2 => exact hk.elim
  rename_i hrd
  obtain ⟨v', bs, hk, o⟩ := frzK_ok hE n r.v _ hk
  rw [forceNL_eq] at hk
  have hDp := hD.patch hR
  have hin : ∀ b ∈ bs, patch h i r b ≠ none := fun b hb => by
    obtain ⟨x, hx, _⟩ := o.blk b hb
    rw [hx]; simp
  have old : ∀ b ∈ bs, b < i → h b ≠ none := by
    intro b hb hbi
    have h1 := hin b hb
    rw [patch_eq] at h1
    split at h1
    · rename_i c
      rcases c with c | c
      · exact hR b c
      · omega
    · exact h1
  refine ⟨_, hk, fun b hb => ?_, ?_⟩
  · rcases List.mem_append.1 hb with hb | hb
    · obtain ⟨h1, h2⟩ := of_ltFilter hb
      exact old b h1 h2
    · exact hR b hb
  intro B σ g w vals hh hhrd hI hB hfree hd
  obtain rfl : hh = h := funext fun b => hhrd b trivial
  refine (htri B σ g w vals hh (fun _ _ => rfl) hI hB hfree hd).mono ?_
  rintro en w' ⟨u, he, σ', g', hS, hI', hv⟩
  obtain ⟨k1, k2, k3⟩ := frz_mem hE o hI' hv
  refine ⟨u, he, σ', _, ⟨hS.sig, hS.snew, hS.gle.trans k1, fun q p v hq => ?_, fun q es hq => hS.gmnew q es hq, fun q hq hx => hS.heap q hq fun b hb => hx b (List.mem_append_right _ hb), hS.size, hS.os, hS.tape, hS.output, fun b q z h1 h2 => (hS.blk b q z h1 h2).imp (fun x => x) fun ⟨b', h3, h4⟩ => ⟨b', List.mem_append_right _ h3, h4⟩⟩, ?_, k3⟩
  · rcases frzG_cell hq with ⟨_, b, hb, z, x, h1, _⟩ | h1
    · cases hσ : σ b with
      | some p' =>
        have := hS.sig b p' hσ
        rw [h1] at this; cases this
        by_cases hbi : b < i
        · exact .inr (.inr ⟨b, List.mem_append_left _ (mem_ltFilter hb hbi), z, hσ⟩)
        · have := hDp b (hin b hb)
          rw [hfree b (by omega) this] at hσ; cases hσ
      | none =>
        rcases hS.blk b q z hσ h1 with h2 | ⟨b', h2, h3⟩
        · exact .inr (.inl h2)
        · exact .inr (.inr ⟨b', List.mem_append_right _ h2, h3⟩)
    · rcases hS.gcnew q p v h1 with h2 | h2 | ⟨b, h2, h3⟩
      · exact .inl h2
      · exact .inr (.inl h2)
      · exact .inr (.inr ⟨b, List.mem_append_right _ h2, h3⟩)
  · refine inv_sub k2 fun b x hx => ?_
    rw [patch_eq] at hx
    split at hx
    · exact hx
    · rename_i hno
      have hnb : b ∉ bs := by
        intro hb
        by_cases hbi : b < i
        · exact hno (.inl (List.mem_append_left _ (mem_ltFilter hb hbi)))
        · exact hno (.inr ⟨by omega, hDp b (hin b hb)⟩)
      have hm : memB b bs = false := by rw [← Bool.not_eq_true, memB_iff]; exact hnb
      show (match memB b bs with | true => frzB (patch hh i r b) | false => patch hh i r b) = some x
      rw [hm]
      show patch hh i r b = some x
      rw [patch_eq, if_neg]
      · exact hx
      · rintro (c | c)
        · exact hno (.inl (List.mem_append_right _ c))
        · exact hno (.inr c)
end
end Go.Proofs.YtpllflefaccmkaaDoor

/- Chapter 17: expressions, once read, stay as they are. -/
namespace Go.Proofs.YtpllflefaccmkaaDoor
open Go
set_option linter.unusedVariables false
set_option linter.unusedSimpArgs false
set_option maxRecDepth 100000
noncomputable def F4 : Fns thy := addS F3 58 (frzC EL (fun _ => some Th.exprs) 20 (callF EL F3 (vc EL F3 2000)) 58)
theorem F4_okL : FnsOk EL F4 := addS_ok F3_okL (frzC_ok EL_ok (callL3 2000) (good_of rfl))
noncomputable def F5 : Fns thy := addS F3 58 (frzC EL (fun _ => some Th.exprs) 20 (callF EL F3 (vc EL F4 2000)) 58)
/-- the function's own text, inner calls by the summary -/
theorem callL34 (n : Nat) : CallOk EL (callF EL F3 (vc EL F4 n)) := callF_ok EL_ok F3_okL fun f N c => (vc_ok EL_ok F4_okL n f N c).1
theorem F5_okL : FnsOk EL F5 := addS_ok F3_okL (frzC_ok EL_ok (callL34 2000) (good_of rfl))
theorem callL5 (n : Nat) : CallOk EL (callF EL F5 (vc EL F5 n)) := callF_ok EL_ok F5_okL fun f N c => (vc_ok EL_ok F5_okL n f N c).1
end Go.Proofs.YtpllflefaccmkaaDoor

/- Chapter 17: the chapter's examples: everything is computed. -/
namespace Go.Proofs.YtpllflefaccmkaaDoor
open Go
set_option linter.unusedVariables false
set_option linter.unusedSimpArgs false
set_option maxRecDepth 100000
theorem cond_sane : callF EL F5 (vc EL F5 4000) 7 [] hp0 0 (fun r => ret EL (patch hp0 0 r) r.v (.bool false true)) = (true = true) := by kernel_rfl
theorem sane_pure : PureC E 7 [] (.bool false true) := by
  refine PureC.like like2 like1 (fun _ _ h => h) (pure_of_call EL_ok (callL5 4000) ?_)
  rw [cond_sane]
end Go.Proofs.YtpllflefaccmkaaDoor

/- Chapter 17: the laws about expressions. -/
namespace Go.Proofs.YtpllflefaccmkaaDoor
open Go
set_option linter.unusedVariables false
set_option linter.unusedSimpArgs false
set_option maxRecDepth 100000
noncomputable def Ssane : Sum thy := sumP (DcL.nil : DcL E Unit) (fun _ => True) fun _ => .bool false true
theorem Ssane_ok : SumOk E 7 Ssane := sumP_ok E_ok (good_of (f := 7) rfl) fun _ _ => sane_pure
noncomputable def SsizeB : Sum thy := sumP dSize (fun x => 1 ≤ x.2.1 ∧ x.2.1 ≤ 1000) fun x => .int false .i64 (min (x.1.sz : Int) x.2.1)
theorem SsizeB_ok : SumOk E 19 SsizeB := sumP_ok E_ok (good_of (f := 19) rfl) fun x h => size_aux _ _ _ (Nat.le_refl _) h.1 h.2
noncomputable def Fsmall : Fns thy := addS F0 19 SsizeB
theorem Fsmall_ok : FnsOk E Fsmall := addS_ok F0_ok SsizeB_ok
--@cond small | 8 | Fsmall | 400 | (x : Ex) | [exA x] | (b : Bool) | .bool false b
theorem cond_small (x : Ex) (b : Bool) : callF E Fsmall (vc E Fsmall 400) 8 [exA x] hp0 0 (fun r => ret E (patch hp0 0 r) r.v (.bool false b)) = (
  ((1 : Int) ≤ (61 : Int) ∧ (61 : Int) ≤ (1000 : Int)) ∧ (decide (min (↑(Ex.sz (Ex.mk (Ex.op x) (Ex.n x) (Ex.d0 x) (Ex.d1 x) (Ex.d2 x) (Ex.d3 x) (Ex.l x))) : Int) (61 : Int) ≤ (60 :
  Int)) = true → true = b) ∧ (decide (min (↑(Ex.sz (Ex.mk (Ex.op x) (Ex.n x) (Ex.d0 x) (Ex.d1 x) (Ex.d2 x) (Ex.d3 x) (Ex.l x))) : Int) (61 : Int) ≤ (60 : Int)) = false → false = b)
  ) := by kernel_rfl
--@end
theorem small_pure (x : Ex) : PureC E 8 [exA x] (.bool false (decide (x.sz ≤ 60))) := by
  refine pure_of_call E_ok (callOk_of E_ok Fsmall_ok 400) ?_
  rw [cond_small]
  simp only [bif_true, bif_false, bif_nt, bif_tf, bif_ft, beq_iff_eq, bne_iff_ne, beq_eq_false_iff_ne, bne_eq_false_iff_eq, decide_eq_true_eq, decide_eq_false_iff_not, Bool.or_eq_true, Bool.or_eq_false_iff, Bool.not_eq_true', Bool.not_eq_false', Bool.and_eq_true, Bool.and_true, Bool.true_and, Bool.and_eq_false_iff, beq_self_eq_true, mm2_max, mm2_min, ne_eq, and_true, true_and, Bool.true_eq_false, Bool.false_eq_true, false_or, or_false, true_implies, imp_self, Int.ofNat_eq_natCast, not_true_eq_false, not_false_eq_true, Decidable.not_not, List.getElem?_cons_zero, List.getElem?_cons_succ, Option.some.injEq, forall_eq', forall_eq, List.set_cons_zero, List.set_cons_succ, List.length_cons, List.length_nil, List.getD_cons_zero, List.getD_cons_succ, tn0, tn1, tn2, tn3, Int.le_refl, Nat.le_refl, Nat.reduceAdd, Int.reduceAdd, Int.reduceLE, Nat.reduceLeDiff, cn4, cn16, Ex.eta]
  refine ⟨fun h => ?_, fun h => ?_⟩
  · rw [decide_eq_true (by omega)]
  · rw [decide_eq_false (by omega)]
noncomputable def Ssmall : Sum thy := sumP dExp (fun _ => True) fun x => .bool false (decide (x.1.sz ≤ 60))
theorem Ssmall_ok : SumOk E 8 Ssmall := sumP_ok E_ok (good_of (f := 8) rfl) fun x _ => small_pure _
--@cond Unit17 | 10 | FUnit17 | 400 | (x : Ex) | [exA x] | (p : List Int × Int) | errV p
--@end
--@cond um | 3 | FUM | 400 | (x : Ex) (a : Int) | [exA x, .int false .i64 a] | (b : Bool) | .bool false b
--@end
noncomputable def SUnitF : Sum thy := sumFY E (fun _ => none) 10 dExp (fun x => x.1.sz < 1000000000) (fun x => unitP x.1) errV
theorem SUnitF_ok : SumOk E 9 SUnitF := sumFY_ok E_ok (good_of (f := 9) rfl) fun x h => Unit_pure _ h
--@cond ru | 4 | Fru | 800 | (x y : Ex) (op : Int) | [exA x, exA y, .int false .u8 op] | (b : Bool) | .bool false b
--@end
--@cond pa | 5 | Fpa | 800 | (x y : Ex) (w : Int) | [exA x, exA y, .int false .u8 w] | (b : Bool) | .bool false b
--@end
end Go.Proofs.YtpllflefaccmkaaDoor

/- Chapter 17: few, Check: the first clause whose price is no amount of money. -/
namespace Go.Proofs.YtpllflefaccmkaaDoor
open Go
set_option linter.unusedVariables false
set_option linter.unusedSimpArgs false
set_option maxRecDepth 100000
noncomputable def dTar : DcL E (Tar × Unit) := .cons (dR .tariffs) .nil
def cOk (c : Cls) : Bool := decide (c.name.length ≤ 100) && decide (c.when_.length ≤ 12) && decide (c.pay.sz ≤ 60)
def fewF (t : Tar) : Bool := decide (t.clauses.length ≤ 66) && decide (t.name.length ≤ 100) && t.clauses.all cOk
structure KX where
  k : Nat
  r : Nat
noncomputable def Afew : Fr thy → Hp thy → Nat → Ann thy := fun T h i => { X := KX, fr := fun x => [(1, T 1), (3, .int false .i64 x.k)], bl := fun x => blkP h (T 1), src := fun _ => [], md := [], ih := i, M := i + 40, meas := fun x => x.r }
noncomputable def Ffew : Fns thy := addL (addS F0 8 Ssmall) 13 4 Afew E
theorem Ffew_ok : FnsOk E Ffew := addL_ok E_ok (addS_ok F0_ok Ssmall_ok) _ _ _
--@cond few | 13 | Ffew | 400 | (t : Tar) | [tarA t] | (b : Bool) | .bool false b
theorem cond_few (t : Tar) (b : Bool) : callF E Ffew (vc E Ffew 400) 13 [tarA t] hp0 0 (fun r => ret E (patch hp0 0 r) r.v (.bool false b)) = (
  ∃ (Q : Bool → Prop), ((decide ((↑(List.length (Tar.clauses t)) : Int) > (66 : Int)) = true → Q true) ∧ (decide ((↑(List.length (Tar.clauses t)) : Int) > (66 : Int)) = false →
  (decide ((↑(List.length (Tar.name t)) : Int) > (100 : Int)) = true → Q true) ∧ (decide ((↑(List.length (Tar.name t)) : Int) > (100 : Int)) = false → Q false))) ∧ (Q true → false =
  b) ∧ (Q false → ∃ (R : KX → Prop), (∃ (x : KX), R x ∧ true = true ∧ ((0 : Nat) = (0 : Nat) ∧ (0 : Int) = (↑(KX.k x) : Int) ∧ True) ∧ (Tar.name t = Tar.name t ∧ Tar.for_ t =
  Tar.for_ t ∧ (Tar.clauses t = Tar.clauses t ∧ (false = true → false = true)) ∧ True) ∧ True) ∧ ∀ (x : KX), R x → (decide ((↑(KX.k x) : Int) < (↑(List.length (Tar.clauses t)) :
  Int)) = true → (0 : Int) ≤ (↑(KX.k x) : Int) ∧ (↑(KX.k x) : Int) + (1 : Int) ≤ (↑(List.length (Tar.clauses t)) : Int) ∧ ∀ (x_1 : Cls), (Tar.clauses t)[Int.toNat (↑(KX.k x) : Int)]?
  = some x_1 → (decide ((↑(List.length (Cls.name x_1)) : Int) > (100 : Int)) = true → false = b) ∧ (decide ((↑(List.length (Cls.name x_1)) : Int) > (100 : Int)) = false → (decide
  ((↑(List.length (Cls.when_ x_1)) : Int) > (12 : Int)) = true → false = b) ∧ (decide ((↑(List.length (Cls.when_ x_1)) : Int) > (12 : Int)) = false → True ∧ ((!decide (Ex.sz (Ex.mk
  (Ex.op (Cls.pay x_1)) (Ex.n (Cls.pay x_1)) (Ex.d0 (Cls.pay x_1)) (Ex.d1 (Cls.pay x_1)) (Ex.d2 (Cls.pay x_1)) (Ex.d3 (Cls.pay x_1)) (Ex.l (Cls.pay x_1))) ≤ (60 : Nat))) = true →
  false = b) ∧ ((!decide (Ex.sz (Ex.mk (Ex.op (Cls.pay x_1)) (Ex.n (Cls.pay x_1)) (Ex.d0 (Cls.pay x_1)) (Ex.d1 (Cls.pay x_1)) (Ex.d2 (Cls.pay x_1)) (Ex.d3 (Cls.pay x_1)) (Ex.l
  (Cls.pay x_1))) ≤ (60 : Nat))) = false → ∃ (x_2 : KX), R x_2 ∧ x_2.2 + (1 : Nat) ≤ x.2 ∧ true = true ∧ ((0 : Nat) = (0 : Nat) ∧ wr IntKind.i64 ((↑(KX.k x) : Int) + (1 : Int)) =
  (↑(KX.k x_2) : Int) ∧ True) ∧ (Tar.name t = Tar.name t ∧ Tar.for_ t = Tar.for_ t ∧ (Tar.clauses t = Tar.clauses t ∧ (false = true → false = true)) ∧ True) ∧ True)))) ∧ (decide
  ((↑(KX.k x) : Int) < (↑(List.length (Tar.clauses t)) : Int)) = false → true = b))
  ) := by kernel_rfl
--@end
theorem all_dropC {l : List Cls} {k : Nat} {w : Cls} (h : l[k]? = some w) : (l.drop k).all cOk = (cOk w && (l.drop (k + 1)).all cOk) := by rw [drop_get h, List.all_cons]
theorem few_pure (t : Tar) : PureC E 13 [tarA t] (.bool false (fewF t)) := by
  refine pure_of_call E_ok (callOk_of E_ok Ffew_ok 400) ?_
  rw [cond_few]
  simp only [bif_true, bif_false, bif_nt, bif_tf, bif_ft, beq_iff_eq, bne_iff_ne, beq_eq_false_iff_ne, bne_eq_false_iff_eq, decide_eq_true_eq, decide_eq_false_iff_not, Bool.or_eq_true, Bool.or_eq_false_iff, Bool.not_eq_true', Bool.not_eq_false', Bool.and_eq_true, Bool.and_true, Bool.true_and, Bool.and_eq_false_iff, beq_self_eq_true, mm2_max, mm2_min, ne_eq, and_true, true_and, Bool.true_eq_false, Bool.false_eq_true, false_or, or_false, true_implies, imp_self, Int.ofNat_eq_natCast, not_true_eq_false, not_false_eq_true, Decidable.not_not, List.getElem?_cons_zero, List.getElem?_cons_succ, Option.some.injEq, forall_eq', forall_eq, List.set_cons_zero, List.set_cons_succ, List.length_cons, List.length_nil, List.getD_cons_zero, List.getD_cons_succ, tn0, tn1, tn2, tn3, Int.le_refl, Nat.le_refl, Nat.reduceAdd, Int.reduceAdd, Int.reduceLE, Nat.reduceLeDiff, cn4, cn16, Ex.eta]
  refine ⟨fun b => b = true ↔ ¬ (t.clauses.length ≤ 66 ∧ t.name.length ≤ 100), And.intro (fun h => ⟨fun _ => by omega, fun _ => rfl⟩) (fun h => And.intro (fun h' => ⟨fun _ => by omega, fun _ => rfl⟩) (fun h' => ⟨fun h => (by cases h), fun h => by omega⟩)), fun h => ?_, fun h => ?_⟩
  · have := h.1 rfl
    cases hb : fewF t with
    | false => rfl
    | true => exfalso; simp only [fewF, Bool.and_eq_true, decide_eq_true_eq] at hb; exact this hb.1
  · have hh : t.clauses.length ≤ 66 ∧ t.name.length ≤ 100 := Decidable.byContradiction fun hn => by have := h.2 hn; cases this
    have hf : fewF t = (t.clauses.drop 0).all cOk := by simp [fewF, hh.1, hh.2]
    refine ⟨fun x => x.k + x.r = t.clauses.length ∧ fewF t = (t.clauses.drop x.k).all cOk, ⟨⟨0, t.clauses.length⟩, ⟨Nat.zero_add _, hf⟩, rfl⟩, fun x hx => ⟨fun hk => ⟨by omega, by omega, fun c hc => ?_⟩, fun hk => ?_⟩⟩
    · rw [Int.toNat_natCast] at hc
      have hd := all_dropC hc
      have bad : ¬ (c.name.length ≤ 100 ∧ c.when_.length ≤ 12 ∧ c.pay.sz ≤ 60) → false = fewF t := fun h => by
        have : cOk c = false := by
          cases hb : cOk c with
          | false => rfl
          | true => exfalso; simp only [cOk, Bool.and_eq_true, decide_eq_true_eq] at hb; exact h ⟨hb.1.1, hb.1.2, hb.2⟩
        rw [hx.2, hd, this]; rfl
      refine And.intro (fun h => bad (by omega)) (fun h1 => And.intro (fun h => bad (by omega)) (fun h2 => And.intro (fun h => bad (by omega)) (fun h3 => ⟨⟨x.k + 1, x.r - 1⟩, ⟨by dsimp only; omega, ?_⟩, by dsimp only; omega, ?_⟩)))
      · have : cOk c = true := by simp only [cOk, Bool.and_eq_true, decide_eq_true_eq]; omega
        rw [hx.2, hd, this]; rfl
      · dsimp only
        exact (wr64 (by omega) (by omega)).trans (by omega)
    · rw [hx.2, List.drop_of_length_le (by omega)]; rfl
def SmallT (t : Tar) : Prop := (∀ c ∈ t.clauses, c.pay.sz < 1000000000 ∧ c.when_.length < 1000000000000) ∧ t.clauses.length < 1000000000000
noncomputable def Schk : Sum thy := sumP dTar (fun x => SmallT x.1) fun x => .int false .i64 (checkF x.1)
theorem Schk_ok : SumOk E 15 Schk := sumP_ok E_ok (good_of (f := 15) rfl) fun x h => check_pure _ (fun c hc => ⟨by have := (h.1 c hc).1; omega, (h.1 c hc).2⟩) h.2
def intV (p : Int × Int) : SV thy := .tup [.int false .i64 p.1, .int false .i64 p.2]
noncomputable def Atck : Fr thy → Hp thy → Nat → Ann thy := fun T h i => { X := KX, fr := fun x => [(4, T 4), (16, T 16), (17, T 17), (18, .int false .i64 x.k)], bl := fun x => [], src := fun _ => [], md := [], ih := i, M := i + 40, meas := fun x => x.r }
noncomputable def Ftck : Fns thy := addL (addS (addS (addS F0 15 Schk) 22 (sumO rulesPre)) 21 (Sunit 1000000000)) 14 6 Atck E
theorem Ftck_ok : FnsOk E Ftck := addL_ok E_ok (addS_ok (addS_ok (addS_ok F0_ok Schk_ok) Srules_ok) SunitB_ok) _ _ _
--@cond tck | 14 | Ftck | 400 | (t : Tar) | [tarA t] | (p : Int × Int) | intV p
theorem cond_tck (t : Tar) (p : Int × Int) : callF E Ftck (vc E Ftck 400) 14 [tarA t] hp0 0 (fun r => ret E (patch hp0 0 r) r.v (intV p)) = (
  ((∀ (c : Cls), c ∈ Tar.clauses t → Ex.sz (Cls.pay c) + (1 : Nat) ≤ (1000000000 : Nat) ∧ List.length (Cls.when_ c) + (1 : Nat) ≤ (1000000000000 : Nat)) ∧ List.length (Tar.clauses t)
  + (1 : Nat) ≤ (1000000000000 : Nat)) ∧ ((checkF t != (0 : Int)) = true → (0 : Int) = Prod.fst p ∧ checkF t = Prod.snd p ∧ True) ∧ ((checkF t != (0 : Int)) = false → ∃ (R : KX →
  Prop), (∃ (x : KX), R x ∧ true = true ∧ ((rulesEs = rulesEs ∧ true = true) ∧ (Tar.clauses t = Tar.clauses t ∧ (false = true → false = true)) ∧ (↑(List.length (Tar.clauses t)) :
  Int) = (↑(List.length (Tar.clauses t)) : Int) ∧ (0 : Int) = (↑(KX.k x) : Int) ∧ True) ∧ True) ∧ ∀ (x : KX), R x → (decide ((↑(KX.k x) : Int) < (↑(List.length (Tar.clauses t)) :
  Int)) = true → (0 : Int) ≤ (↑(KX.k x) : Int) ∧ (↑(KX.k x) : Int) + (1 : Int) ≤ (↑(List.length (Tar.clauses t)) : Int) ∧ ∀ (x_1 : Cls), (Tar.clauses t)[Int.toNat (↑(KX.k x) : Int)]?
  = some x_1 → SV.pmap rulesEs = rulesV ∧ (Ex.sz (Ex.mk (Ex.op (Cls.pay x_1)) (Ex.n (Cls.pay x_1)) (Ex.d0 (Cls.pay x_1)) (Ex.d1 (Cls.pay x_1)) (Ex.d2 (Cls.pay x_1)) (Ex.d3 (Cls.pay
  x_1)) (Ex.l (Cls.pay x_1))) + (1 : Nat) ≤ (1000000000 : Nat) ∧ formX (Ex.mk (Ex.op (Cls.pay x_1)) (Ex.n (Cls.pay x_1)) (Ex.d0 (Cls.pay x_1)) (Ex.d1 (Cls.pay x_1)) (Ex.d2 (Cls.pay
  x_1)) (Ex.d3 (Cls.pay x_1)) (Ex.l (Cls.pay x_1))) = true) ∧ ∀ (o : Option (List Int)), o = unitX (Ex.mk (Ex.op (Cls.pay x_1)) (Ex.n (Cls.pay x_1)) (Ex.d0 (Cls.pay x_1)) (Ex.d1
  (Cls.pay x_1)) (Ex.d2 (Cls.pay x_1)) (Ex.d3 (Cls.pay x_1)) (Ex.l (Cls.pay x_1))) → (4 : Nat) = (4 : Nat) ∧ ((!Option.isSome o) = true → (↑(KX.k x) : Int) = Prod.fst p ∧ (170 : Int)
  = Prod.snd p ∧ True) ∧ ((!Option.isSome o) = false → (4 : Nat) = (4 : Nat) ∧ ((!(List.getD (Option.getD o [(0 : Int), (0 : Int), (0 : Int), (0 : Int)]) (0 : Nat) (0 : Int) == (1 :
  Int) && (List.getD (Option.getD o [(0 : Int), (0 : Int), (0 : Int), (0 : Int)]) (1 : Nat) (0 : Int) == (0 : Int) && (List.getD (Option.getD o [(0 : Int), (0 : Int), (0 : Int), (0 :
  Int)]) (2 : Nat) (0 : Int) == (0 : Int) && (List.getD (Option.getD o [(0 : Int), (0 : Int), (0 : Int), (0 : Int)]) (3 : Nat) (0 : Int) == (0 : Int) && true))))) = true → (↑(KX.k x)
  : Int) = Prod.fst p ∧ (170 : Int) = Prod.snd p ∧ True) ∧ ((!(List.getD (Option.getD o [(0 : Int), (0 : Int), (0 : Int), (0 : Int)]) (0 : Nat) (0 : Int) == (1 : Int) && (List.getD
  (Option.getD o [(0 : Int), (0 : Int), (0 : Int), (0 : Int)]) (1 : Nat) (0 : Int) == (0 : Int) && (List.getD (Option.getD o [(0 : Int), (0 : Int), (0 : Int), (0 : Int)]) (2 : Nat)
  (0 : Int) == (0 : Int) && (List.getD (Option.getD o [(0 : Int), (0 : Int), (0 : Int), (0 : Int)]) (3 : Nat) (0 : Int) == (0 : Int) && true))))) = false → ∃ (x_2 : KX), R x_2 ∧
  x_2.2 + (1 : Nat) ≤ x.2 ∧ true = true ∧ ((rulesEs = rulesEs ∧ true = true) ∧ (Tar.clauses t = Tar.clauses t ∧ (false = true → false = true)) ∧ (↑(List.length (Tar.clauses t)) :
  Int) = (↑(List.length (Tar.clauses t)) : Int) ∧ wr IntKind.i64 ((↑(KX.k x) : Int) + (1 : Int)) = (↑(KX.k x_2) : Int) ∧ True) ∧ True))) ∧ (decide ((↑(KX.k x) : Int) < (↑(List.length
  (Tar.clauses t)) : Int)) = false → (0 : Int) = Prod.fst p ∧ (0 : Int) = Prod.snd p ∧ True))
  ) := by kernel_rfl
--@end
def goU : Nat → List Cls → Int × Int
  | _, [] => (0, 0)
  | k, c :: r => if unitX c.pay = some [1, 0, 0, 0] then goU (k + 1) r else (k, 170)
noncomputable def chkP (t : Tar) : Int × Int := if checkF t = 0 then goU 0 t.clauses else (0, checkF t)
theorem goC_ok : ∀ (l : List Cls) (a b : Bool) (m : List (List Nat × Bool)), goC a b m l = 0 → ∀ c ∈ l, clsOk c = true
  | [], _, _, _, _, c, hc => by cases hc
  | d :: r, a, b, m, h, c, hc => by
    rw [goC_cons] at h
    split at h
    · rename_i hd
      rcases List.mem_cons.1 hc with rfl | hc
      · exact hd
      · exact goC_ok r _ _ _ h c hc
    · cases h
theorem checkF_ok {t : Tar} (h : checkF t = 0) : ∀ c ∈ t.clauses, formX c.pay = true := fun c hc => by
  unfold checkF at h
  split at h
  · have := goC_ok _ _ _ _ h c hc
    simp only [clsOk, Bool.and_eq_true] at this
    exact this.1.2
  · cases h
theorem goU_drop {l : List Cls} {k : Nat} {c : Cls} (h : l[k]? = some c) : goU k (l.drop k) = if unitX c.pay = some [1, 0, 0, 0] then goU (k + 1) (l.drop (k + 1)) else ((k : Int), 170) := by rw [drop_get h, goU]
theorem fst_snd {p : Int × Int} {a b : Int} (h : p = (a, b)) : a = p.1 ∧ b = p.2 := by rw [h]; exact ⟨rfl, rfl⟩
theorem tck_pure (t : Tar) (hs : SmallT t) : PureC E 14 [tarA t] (intV (chkP t)) := by
  refine pure_of_call E_ok (callOk_of E_ok Ftck_ok 400) ?_
  rw [cond_tck]
  simp only [bif_true, bif_false, bif_nt, bif_tf, bif_ft, beq_iff_eq, bne_iff_ne, beq_eq_false_iff_ne, bne_eq_false_iff_eq, decide_eq_true_eq, decide_eq_false_iff_not, Bool.or_eq_true, Bool.or_eq_false_iff, Bool.not_eq_true', Bool.not_eq_false', Bool.and_eq_true, Bool.and_true, Bool.true_and, Bool.and_eq_false_iff, beq_self_eq_true, mm2_max, mm2_min, ne_eq, and_true, true_and, Bool.true_eq_false, Bool.false_eq_true, false_or, or_false, true_implies, imp_self, Int.ofNat_eq_natCast, not_true_eq_false, not_false_eq_true, Decidable.not_not, List.getElem?_cons_zero, List.getElem?_cons_succ, Option.some.injEq, forall_eq', forall_eq, List.set_cons_zero, List.set_cons_succ, List.length_cons, List.length_nil, List.getD_cons_zero, List.getD_cons_succ, tn0, tn1, tn2, tn3, Int.le_refl, Nat.le_refl, Nat.reduceAdd, Int.reduceAdd, Int.reduceLE, Nat.reduceLeDiff, cn4, cn16, Ex.eta]
  have hs' := hs
  obtain ⟨hs1, hs2⟩ := hs'
  refine ⟨⟨fun c hc => And.intro (by have := (hs1 c hc).1; omega) (by have := (hs1 c hc).2; omega), by omega⟩, fun h => fst_snd (by unfold chkP; rw [if_neg h]), fun h => ?_⟩
  have e : chkP t = goU 0 t.clauses := by unfold chkP; rw [if_pos h]
  refine ⟨fun x => x.k + x.r = t.clauses.length ∧ chkP t = goU x.k (t.clauses.drop x.k), ⟨⟨0, t.clauses.length⟩, ⟨Nat.zero_add _, by rw [e]; rfl⟩, rfl⟩, fun x hx => ⟨fun hk => ⟨by omega, by omega, fun c hc => ?_⟩, fun hk => ?_⟩⟩
  · rw [Int.toNat_natCast] at hc
    have hm := List.mem_of_getElem? hc
    have hf := checkF_ok h c hm
    have hd := goU_drop hc
    have hc2 := hs1 c hm
    refine ⟨rfl, ⟨by omega, hf⟩, fun ho => ?_, fun ho => ?_⟩
    · have hn := Option.isNone_iff_eq_none.1 (Option.isSome_eq_false_iff.1 ho)
      exact fst_snd (by rw [hx.2, hd, hn, if_neg (by simp)])
    · obtain ⟨d, hdd⟩ := Option.isSome_iff_exists.1 ho
      obtain ⟨a0, a1, a2, a3, rfl, _⟩ := unitX_3 c.pay hf hdd
      rw [hdd] at hd ⊢
      simp only [Option.getD_some, List.getD_cons_zero, List.getD_cons_succ]
      refine ⟨fun hn => fst_snd (by
        have hne : ¬ some [a0, a1, a2, a3] = some [(1 : Int), 0, 0, 0] := fun he => by
          simp only [Option.some.injEq, List.cons.injEq, and_true] at he
          omega
        rw [hx.2, hd, if_neg hne]), fun hy => ⟨⟨x.k + 1, x.r - 1⟩, ⟨by dsimp only; omega, ?_⟩, by dsimp only; omega, ?_⟩⟩
      · rw [hx.2, hd, if_pos (by rw [hy.1, hy.2.1, hy.2.2.1, hy.2.2.2])]
      · dsimp only
        exact (wr64 (by omega) (by omega)).trans (by omega)
  · exact fst_snd (by rw [hx.2, List.drop_of_length_le (by omega)]; rfl)
theorem goU_spec : ∀ (l : List Cls) (k : Nat), (goU k l = (0, 0) ∧ ∀ (j : Nat) (c : Cls), l[j]? = some c → unitX c.pay = some [1, 0, 0, 0]) ∨ ∃ (j : Nat) (c : Cls), l[j]? = some c ∧ goU k l = (((k + j : Nat) : Int), 170) ∧ unitX c.pay ≠ some [1, 0, 0, 0] ∧ ∀ j' : Nat, j' < j → ∀ c' : Cls, l[j']? = some c' → unitX c'.pay = some [1, 0, 0, 0]
  | [], k => .inl ⟨rfl, fun j c h => by simp at h⟩
  | d :: r, k => by
    by_cases hd : unitX d.pay = some [1, 0, 0, 0]
    · have e : goU k (d :: r) = goU (k + 1) r := by rw [goU, if_pos hd]
      rw [e]
      rcases goU_spec r (k + 1) with ⟨h1, h2⟩ | ⟨j, c, h1, h2, h3, h4⟩
      · refine .inl ⟨h1, fun j c h => ?_⟩
        cases j with
        | zero => cases h; exact hd
        | succ j => exact h2 j c h
      · refine .inr ⟨j + 1, c, h1, by rw [h2, Nat.add_assoc, Nat.add_comm 1 j], h3, fun j' hj c' h => ?_⟩
        cases j' with
        | zero => cases h; exact hd
        | succ j' => exact h4 j' (by omega) c' h
    · exact .inr ⟨0, d, rfl, by rw [goU, if_neg hd]; rfl, hd, fun j' h => absurd h (Nat.not_lt_zero _)⟩
theorem few_small {t : Tar} (h : fewF t = true) : SmallT t ∧ t.clauses.length ≤ 66 ∧ ∀ c ∈ t.clauses, c.pay.sz ≤ 60 := by
  simp only [fewF, Bool.and_eq_true, decide_eq_true_eq, List.all_eq_true] at h
  have h3 : ∀ c ∈ t.clauses, c.when_.length ≤ 12 ∧ c.pay.sz ≤ 60 := fun c hc => by
    have := h.2 c hc
    simp only [cOk, Bool.and_eq_true, decide_eq_true_eq] at this
    exact ⟨this.1.2, this.2⟩
  exact ⟨⟨fun c hc => And.intro (by have := h3 c hc; omega) (by have := h3 c hc; omega), by omega⟩, h.1.1, fun c hc => (h3 c hc).2⟩
noncomputable def Sfew : Sum thy := sumP dTar (fun _ => True) fun x => .bool false (fewF x.1)
theorem Sfew_ok : SumOk E 13 Sfew := sumP_ok E_ok (good_of (f := 13) rfl) fun x h => few_pure _
noncomputable def Stck : Sum thy := sumPY dTar (fun x => SmallT x.1) (fun x => chkP x.1) intV
theorem Stck_ok : SumOk E 14 Stck := sumPY_ok E_ok (good_of (f := 14) rfl) fun x h => tck_pure _ h
noncomputable def Afc : Fr thy → Hp thy → Nat → Ann thy := fun T h i => { X := KX, fr := fun x => [(1, T 1), (4, T 4), (6, T 6), (7, .int false .i64 x.k)], bl := fun x => blkP h (T 1), src := fun _ => [], md := [], ih := i, M := i + 40, meas := fun x => x.r }
noncomputable def Ffc : Fns thy := addL (addS (addS (addS (addS (addS F0 7 Ssane) 13 Sfew) 14 Stck) 15 Schk) 9 SUnitF) 6 15 Afc E
theorem Ffc_ok : FnsOk E Ffc := addL_ok E_ok (addS_ok (addS_ok (addS_ok (addS_ok (addS_ok F0_ok Ssane_ok) Sfew_ok) Stck_ok) Schk_ok) SUnitF_ok) _ _ _
--@cond fc | 6 | Ffc | 800 | (t : Tar) | [tarA t] | (b : Bool) | .bool false b
theorem cond_fc (t : Tar) (b : Bool) : callF E Ffc (vc E Ffc 800) 6 [tarA t] hp0 0 (fun r => ret E (patch hp0 0 r) r.v (.bool false b)) = (
  True ∧ ((!true) = true → false = b) ∧ ((!true) = false → True ∧ ((!fewF t) = true → true = b) ∧ ((!fewF t) = false → ((∀ (c : Cls), c ∈ Tar.clauses t → Ex.sz (Cls.pay c) + (1 :
  Nat) ≤ (1000000000 : Nat) ∧ List.length (Cls.when_ c) + (1 : Nat) ≤ (1000000000000 : Nat)) ∧ List.length (Tar.clauses t) + (1 : Nat) ≤ (1000000000000 : Nat)) ∧ ∀ (y : Int × Int), y
  = chkP t → ((∀ (c : Cls), c ∈ Tar.clauses t → Ex.sz (Cls.pay c) + (1 : Nat) ≤ (1000000000 : Nat) ∧ List.length (Cls.when_ c) + (1 : Nat) ≤ (1000000000000 : Nat)) ∧ List.length
  (Tar.clauses t) + (1 : Nat) ≤ (1000000000000 : Nat)) ∧ ((checkF t != (0 : Int)) = true → ((Prod.fst y == (0 : Int)) = true → ((Prod.snd y == checkF t) = true → true = b) ∧
  ((Prod.snd y == checkF t) = false → false = b)) ∧ ((Prod.fst y == (0 : Int)) = false → false = b)) ∧ ((checkF t != (0 : Int)) = false → ((Prod.snd y == (170 : Int)) = true → ∃ (Q :
  Bool → Prop), (((Prod.snd y != (0 : Int)) = true → ((Prod.snd y != (170 : Int)) = true → Q true) ∧ ((Prod.snd y != (170 : Int)) = false → (decide (Prod.fst y < (0 : Int)) = true →
  Q true) ∧ (decide (Prod.fst y < (0 : Int)) = false → ((Prod.snd y == (170 : Int)) = true → (decide (Prod.fst y ≥ (↑(List.length (Tar.clauses t)) : Int)) = true → Q true) ∧ (decide
  (Prod.fst y ≥ (↑(List.length (Tar.clauses t)) : Int)) = false → ((Prod.snd y == (0 : Int)) = true → ((Prod.fst y != (0 : Int)) = true → Q true) ∧ ((Prod.fst y != (0 : Int)) = false
  → Q false)) ∧ ((Prod.snd y == (0 : Int)) = false → Q false))) ∧ ((Prod.snd y == (170 : Int)) = false → ((Prod.snd y == (0 : Int)) = true → ((Prod.fst y != (0 : Int)) = true → Q
  true) ∧ ((Prod.fst y != (0 : Int)) = false → Q false)) ∧ ((Prod.snd y == (0 : Int)) = false → Q false))))) ∧ ((Prod.snd y != (0 : Int)) = false → (decide (Prod.fst y < (0 : Int)) =
  true → Q true) ∧ (decide (Prod.fst y < (0 : Int)) = false → ((Prod.snd y == (170 : Int)) = true → (decide (Prod.fst y ≥ (↑(List.length (Tar.clauses t)) : Int)) = true → Q true) ∧
  (decide (Prod.fst y ≥ (↑(List.length (Tar.clauses t)) : Int)) = false → ((Prod.snd y == (0 : Int)) = true → ((Prod.fst y != (0 : Int)) = true → Q true) ∧ ((Prod.fst y != (0 : Int))
  = false → Q false)) ∧ ((Prod.snd y == (0 : Int)) = false → Q false))) ∧ ((Prod.snd y == (170 : Int)) = false → ((Prod.snd y == (0 : Int)) = true → ((Prod.fst y != (0 : Int)) = true
  → Q true) ∧ ((Prod.fst y != (0 : Int)) = false → Q false)) ∧ ((Prod.snd y == (0 : Int)) = false → Q false))))) ∧ (Q true → false = b) ∧ (Q false → ∃ (R : KX → Prop), (∃ (x : KX), R
  x ∧ true = true ∧ ((0 : Nat) = (0 : Nat) ∧ Prod.snd y = Prod.snd y ∧ Prod.fst y = Prod.fst y ∧ (0 : Int) = (↑(KX.k x) : Int) ∧ True) ∧ (Tar.name t = Tar.name t ∧ Tar.for_ t =
  Tar.for_ t ∧ (Tar.clauses t = Tar.clauses t ∧ (false = true → false = true)) ∧ True) ∧ True) ∧ ∀ (x : KX), R x → (decide ((↑(KX.k x) : Int) < Prod.fst y) = true → (0 : Int) ≤
  (↑(KX.k x) : Int) ∧ (↑(KX.k x) : Int) + (1 : Int) ≤ (↑(List.length (Tar.clauses t)) : Int) ∧ ∀ (x_1 : Cls), (Tar.clauses t)[Int.toNat (↑(KX.k x) : Int)]? = some x_1 → Ex.sz (Ex.mk
  (Ex.op (Cls.pay x_1)) (Ex.n (Cls.pay x_1)) (Ex.d0 (Cls.pay x_1)) (Ex.d1 (Cls.pay x_1)) (Ex.d2 (Cls.pay x_1)) (Ex.d3 (Cls.pay x_1)) (Ex.l (Cls.pay x_1))) + (1 : Nat) ≤ (1000000000 :
  Nat) ∧ ∀ (y_1 : List Int × Int), y_1 = unitP (Ex.mk (Ex.op (Cls.pay x_1)) (Ex.n (Cls.pay x_1)) (Ex.d0 (Cls.pay x_1)) (Ex.d1 (Cls.pay x_1)) (Ex.d2 (Cls.pay x_1)) (Ex.d3 (Cls.pay
  x_1)) (Ex.l (Cls.pay x_1))) → (4 : Nat) = (4 : Nat) ∧ ((Prod.snd y_1 != (0 : Int)) = true → false = b) ∧ ((Prod.snd y_1 != (0 : Int)) = false → (4 : Nat) = (4 : Nat) ∧
  ((!(List.getD (Prod.fst y_1) (0 : Nat) (0 : Int) == (1 : Int) && (List.getD (Prod.fst y_1) (1 : Nat) (0 : Int) == (0 : Int) && (List.getD (Prod.fst y_1) (2 : Nat) (0 : Int) == (0 :
  Int) && (List.getD (Prod.fst y_1) (3 : Nat) (0 : Int) == (0 : Int) && true))))) = true → false = b) ∧ ((!(List.getD (Prod.fst y_1) (0 : Nat) (0 : Int) == (1 : Int) && (List.getD
  (Prod.fst y_1) (1 : Nat) (0 : Int) == (0 : Int) && (List.getD (Prod.fst y_1) (2 : Nat) (0 : Int) == (0 : Int) && (List.getD (Prod.fst y_1) (3 : Nat) (0 : Int) == (0 : Int) &&
  true))))) = false → ∃ (x_2 : KX), R x_2 ∧ x_2.2 + (1 : Nat) ≤ x.2 ∧ true = true ∧ ((0 : Nat) = (0 : Nat) ∧ Prod.snd y = Prod.snd y ∧ Prod.fst y = Prod.fst y ∧ wr IntKind.i64
  ((↑(KX.k x) : Int) + (1 : Int)) = (↑(KX.k x_2) : Int) ∧ True) ∧ (Tar.name t = Tar.name t ∧ Tar.for_ t = Tar.for_ t ∧ (Tar.clauses t = Tar.clauses t ∧ (false = true → false = true))
  ∧ True) ∧ True))) ∧ (decide ((↑(KX.k x) : Int) < Prod.fst y) = false → ((Prod.snd y == (0 : Int)) = true → true = b) ∧ ((Prod.snd y == (0 : Int)) = false → (0 : Int) ≤ Prod.fst y ∧
  Prod.fst y + (1 : Int) ≤ (↑(List.length (Tar.clauses t)) : Int) ∧ ∀ (x : Cls), (Tar.clauses t)[Int.toNat (Prod.fst y)]? = some x → Ex.sz (Ex.mk (Ex.op (Cls.pay x)) (Ex.n (Cls.pay
  x)) (Ex.d0 (Cls.pay x)) (Ex.d1 (Cls.pay x)) (Ex.d2 (Cls.pay x)) (Ex.d3 (Cls.pay x)) (Ex.l (Cls.pay x))) + (1 : Nat) ≤ (1000000000 : Nat) ∧ ∀ (y : List Int × Int), y = unitP (Ex.mk
  (Ex.op (Cls.pay x)) (Ex.n (Cls.pay x)) (Ex.d0 (Cls.pay x)) (Ex.d1 (Cls.pay x)) (Ex.d2 (Cls.pay x)) (Ex.d3 (Cls.pay x)) (Ex.l (Cls.pay x))) → (4 : Nat) = (4 : Nat) ∧ ((Prod.snd y ==
  (170 : Int)) = true → true = b) ∧ ((Prod.snd y == (170 : Int)) = false → ((Prod.snd y == (0 : Int)) = true → (4 : Nat) = (4 : Nat) ∧ ((!(List.getD (Prod.fst y) (0 : Nat) (0 : Int)
  == (1 : Int) && (List.getD (Prod.fst y) (1 : Nat) (0 : Int) == (0 : Int) && (List.getD (Prod.fst y) (2 : Nat) (0 : Int) == (0 : Int) && (List.getD (Prod.fst y) (3 : Nat) (0 : Int)
  == (0 : Int) && true))))) = true → true = b) ∧ ((!(List.getD (Prod.fst y) (0 : Nat) (0 : Int) == (1 : Int) && (List.getD (Prod.fst y) (1 : Nat) (0 : Int) == (0 : Int) && (List.getD
  (Prod.fst y) (2 : Nat) (0 : Int) == (0 : Int) && (List.getD (Prod.fst y) (3 : Nat) (0 : Int) == (0 : Int) && true))))) = false → false = b)) ∧ ((Prod.snd y == (0 : Int)) = false →
  false = b)))))) ∧ ((Prod.snd y == (170 : Int)) = false → ∃ (Q : Bool → Prop), (((Prod.snd y != (0 : Int)) = true → ((Prod.snd y != (170 : Int)) = true → Q true) ∧ ((Prod.snd y !=
  (170 : Int)) = false → (decide ((↑(List.length (Tar.clauses t)) : Int) < (0 : Int)) = true → Q true) ∧ (decide ((↑(List.length (Tar.clauses t)) : Int) < (0 : Int)) = false →
  ((Prod.snd y == (170 : Int)) = true → (decide ((↑(List.length (Tar.clauses t)) : Int) ≥ (↑(List.length (Tar.clauses t)) : Int)) = true → Q true) ∧ (decide ((↑(List.length
  (Tar.clauses t)) : Int) ≥ (↑(List.length (Tar.clauses t)) : Int)) = false → ((Prod.snd y == (0 : Int)) = true → ((Prod.fst y != (0 : Int)) = true → Q true) ∧ ((Prod.fst y != (0 :
  Int)) = false → Q false)) ∧ ((Prod.snd y == (0 : Int)) = false → Q false))) ∧ ((Prod.snd y == (170 : Int)) = false → ((Prod.snd y == (0 : Int)) = true → ((Prod.fst y != (0 : Int))
  = true → Q true) ∧ ((Prod.fst y != (0 : Int)) = false → Q false)) ∧ ((Prod.snd y == (0 : Int)) = false → Q false))))) ∧ ((Prod.snd y != (0 : Int)) = false → (decide ((↑(List.length
  (Tar.clauses t)) : Int) < (0 : Int)) = true → Q true) ∧ (decide ((↑(List.length (Tar.clauses t)) : Int) < (0 : Int)) = false → ((Prod.snd y == (170 : Int)) = true → (decide
  ((↑(List.length (Tar.clauses t)) : Int) ≥ (↑(List.length (Tar.clauses t)) : Int)) = true → Q true) ∧ (decide ((↑(List.length (Tar.clauses t)) : Int) ≥ (↑(List.length (Tar.clauses
  t)) : Int)) = false → ((Prod.snd y == (0 : Int)) = true → ((Prod.fst y != (0 : Int)) = true → Q true) ∧ ((Prod.fst y != (0 : Int)) = false → Q false)) ∧ ((Prod.snd y == (0 : Int))
  = false → Q false))) ∧ ((Prod.snd y == (170 : Int)) = false → ((Prod.snd y == (0 : Int)) = true → ((Prod.fst y != (0 : Int)) = true → Q true) ∧ ((Prod.fst y != (0 : Int)) = false →
  Q false)) ∧ ((Prod.snd y == (0 : Int)) = false → Q false))))) ∧ (Q true → false = b) ∧ (Q false → ∃ (R : KX → Prop), (∃ (x : KX), R x ∧ true = true ∧ ((0 : Nat) = (0 : Nat) ∧
  Prod.snd y = Prod.snd y ∧ (↑(List.length (Tar.clauses t)) : Int) = (↑(List.length (Tar.clauses t)) : Int) ∧ (0 : Int) = (↑(KX.k x) : Int) ∧ True) ∧ (Tar.name t = Tar.name t ∧
  Tar.for_ t = Tar.for_ t ∧ (Tar.clauses t = Tar.clauses t ∧ (false = true → false = true)) ∧ True) ∧ True) ∧ ∀ (x : KX), R x → (decide ((↑(KX.k x) : Int) < (↑(List.length
  (Tar.clauses t)) : Int)) = true → (0 : Int) ≤ (↑(KX.k x) : Int) ∧ (↑(KX.k x) : Int) + (1 : Int) ≤ (↑(List.length (Tar.clauses t)) : Int) ∧ ∀ (x_1 : Cls), (Tar.clauses t)[Int.toNat
  (↑(KX.k x) : Int)]? = some x_1 → Ex.sz (Ex.mk (Ex.op (Cls.pay x_1)) (Ex.n (Cls.pay x_1)) (Ex.d0 (Cls.pay x_1)) (Ex.d1 (Cls.pay x_1)) (Ex.d2 (Cls.pay x_1)) (Ex.d3 (Cls.pay x_1))
  (Ex.l (Cls.pay x_1))) + (1 : Nat) ≤ (1000000000 : Nat) ∧ ∀ (y_1 : List Int × Int), y_1 = unitP (Ex.mk (Ex.op (Cls.pay x_1)) (Ex.n (Cls.pay x_1)) (Ex.d0 (Cls.pay x_1)) (Ex.d1
  (Cls.pay x_1)) (Ex.d2 (Cls.pay x_1)) (Ex.d3 (Cls.pay x_1)) (Ex.l (Cls.pay x_1))) → (4 : Nat) = (4 : Nat) ∧ ((Prod.snd y_1 != (0 : Int)) = true → false = b) ∧ ((Prod.snd y_1 != (0 :
  Int)) = false → (4 : Nat) = (4 : Nat) ∧ ((!(List.getD (Prod.fst y_1) (0 : Nat) (0 : Int) == (1 : Int) && (List.getD (Prod.fst y_1) (1 : Nat) (0 : Int) == (0 : Int) && (List.getD
  (Prod.fst y_1) (2 : Nat) (0 : Int) == (0 : Int) && (List.getD (Prod.fst y_1) (3 : Nat) (0 : Int) == (0 : Int) && true))))) = true → false = b) ∧ ((!(List.getD (Prod.fst y_1) (0 :
  Nat) (0 : Int) == (1 : Int) && (List.getD (Prod.fst y_1) (1 : Nat) (0 : Int) == (0 : Int) && (List.getD (Prod.fst y_1) (2 : Nat) (0 : Int) == (0 : Int) && (List.getD (Prod.fst y_1)
  (3 : Nat) (0 : Int) == (0 : Int) && true))))) = false → ∃ (x_2 : KX), R x_2 ∧ x_2.2 + (1 : Nat) ≤ x.2 ∧ true = true ∧ ((0 : Nat) = (0 : Nat) ∧ Prod.snd y = Prod.snd y ∧
  (↑(List.length (Tar.clauses t)) : Int) = (↑(List.length (Tar.clauses t)) : Int) ∧ wr IntKind.i64 ((↑(KX.k x) : Int) + (1 : Int)) = (↑(KX.k x_2) : Int) ∧ True) ∧ (Tar.name t =
  Tar.name t ∧ Tar.for_ t = Tar.for_ t ∧ (Tar.clauses t = Tar.clauses t ∧ (false = true → false = true)) ∧ True) ∧ True))) ∧ (decide ((↑(KX.k x) : Int) < (↑(List.length (Tar.clauses
  t)) : Int)) = false → ((Prod.snd y == (0 : Int)) = true → true = b) ∧ ((Prod.snd y == (0 : Int)) = false → (0 : Int) ≤ (↑(List.length (Tar.clauses t)) : Int) ∧ (↑(List.length
  (Tar.clauses t)) : Int) + (1 : Int) ≤ (↑(List.length (Tar.clauses t)) : Int) ∧ ∀ (x : Cls), (Tar.clauses t)[Int.toNat (↑(List.length (Tar.clauses t)) : Int)]? = some x → Ex.sz
  (Ex.mk (Ex.op (Cls.pay x)) (Ex.n (Cls.pay x)) (Ex.d0 (Cls.pay x)) (Ex.d1 (Cls.pay x)) (Ex.d2 (Cls.pay x)) (Ex.d3 (Cls.pay x)) (Ex.l (Cls.pay x))) + (1 : Nat) ≤ (1000000000 : Nat) ∧
  ∀ (y : List Int × Int), y = unitP (Ex.mk (Ex.op (Cls.pay x)) (Ex.n (Cls.pay x)) (Ex.d0 (Cls.pay x)) (Ex.d1 (Cls.pay x)) (Ex.d2 (Cls.pay x)) (Ex.d3 (Cls.pay x)) (Ex.l (Cls.pay x)))
  → (4 : Nat) = (4 : Nat) ∧ ((Prod.snd y == (170 : Int)) = true → true = b) ∧ ((Prod.snd y == (170 : Int)) = false → ((Prod.snd y == (0 : Int)) = true → (4 : Nat) = (4 : Nat) ∧
  ((!(List.getD (Prod.fst y) (0 : Nat) (0 : Int) == (1 : Int) && (List.getD (Prod.fst y) (1 : Nat) (0 : Int) == (0 : Int) && (List.getD (Prod.fst y) (2 : Nat) (0 : Int) == (0 : Int)
  && (List.getD (Prod.fst y) (3 : Nat) (0 : Int) == (0 : Int) && true))))) = true → true = b) ∧ ((!(List.getD (Prod.fst y) (0 : Nat) (0 : Int) == (1 : Int) && (List.getD (Prod.fst y)
  (1 : Nat) (0 : Int) == (0 : Int) && (List.getD (Prod.fst y) (2 : Nat) (0 : Int) == (0 : Int) && (List.getD (Prod.fst y) (3 : Nat) (0 : Int) == (0 : Int) && true))))) = false →
  false = b)) ∧ ((Prod.snd y == (0 : Int)) = false → false = b)))))))))
  ) := by kernel_rfl
--@end
theorem fc_pure (t : Tar) : PureC E 6 [tarA t] (.bool false true) := by
  refine pure_of_call E_ok (callOk_of E_ok Ffc_ok 800) ?_
  rw [cond_fc]
  simp only [bif_true, bif_false, bif_nt, bif_tf, bif_ft, beq_iff_eq, bne_iff_ne, beq_eq_false_iff_ne, bne_eq_false_iff_eq, decide_eq_true_eq, decide_eq_false_iff_not, Bool.or_eq_true, Bool.or_eq_false_iff, Bool.not_eq_true', Bool.not_eq_false', Bool.and_eq_true, Bool.and_true, Bool.true_and, Bool.and_eq_false_iff, beq_self_eq_true, mm2_max, mm2_min, ne_eq, and_true, true_and, Bool.true_eq_false, Bool.false_eq_true, false_or, or_false, true_implies, imp_self, Int.ofNat_eq_natCast, not_true_eq_false, not_false_eq_true, Decidable.not_not, List.getElem?_cons_zero, List.getElem?_cons_succ, Option.some.injEq, forall_eq', forall_eq, List.set_cons_zero, List.set_cons_succ, List.length_cons, List.length_nil, List.getD_cons_zero, List.getD_cons_succ, tn0, tn1, tn2, tn3, Int.le_refl, Nat.le_refl, Nat.reduceAdd, Int.reduceAdd, Int.reduceLE, Nat.reduceLeDiff, cn4, cn16, Ex.eta]
  refine ⟨fun _ => trivial, fun hfew => ?_⟩
  obtain ⟨hsm, hl66, hs60⟩ := few_small hfew
  have hsm' : (∀ (c : Cls), c ∈ t.clauses → c.pay.sz ≤ 999999999 ∧ c.when_.length ≤ 999999999999) ∧ t.clauses.length ≤ 999999999999 := ⟨fun c hc => And.intro (by have := (hsm.1 c hc).1; omega) (by have := (hsm.1 c hc).2; omega), by omega⟩
  refine ⟨hsm', hsm', fun hc => ?_, fun hc => ?_⟩
  · have e : chkP t = (0, checkF t) := by unfold chkP; rw [if_neg hc]
    rw [e]
    exact ⟨fun _ => ⟨fun _ => trivial, fun h => absurd rfl h⟩, fun h => absurd rfl h⟩
  have hform := checkF_ok hc
  have money : ∀ c ∈ t.clauses, unitX c.pay = some [1, 0, 0, 0] → unitP c.pay = ([1, 0, 0, 0], 0) := fun c h1 h2 => by rw [unitP_of (hform c h1), h2]; rfl
  have e0 : chkP t = goU 0 t.clauses := by unfold chkP; rw [if_pos hc]
  rcases goU_spec t.clauses 0 with ⟨h1, h2⟩ | ⟨j, c, h1, h2, h3, h4⟩
  · rw [e0, h1]
    refine ⟨fun h => absurd h (by decide), fun _ => ⟨fun b => b = false, ⟨fun h => absurd rfl h, fun _ => ⟨fun h => absurd h (by omega), fun _ => ⟨fun h => absurd h (by decide), fun _ => ⟨fun _ => ⟨fun h => absurd rfl h, fun _ => rfl⟩, fun h => absurd rfl h⟩⟩⟩⟩, fun h => (by cases h), fun _ => ?_⟩⟩
    refine ⟨fun x => x.k + x.r = t.clauses.length, ⟨⟨0, t.clauses.length⟩, Nat.zero_add _, rfl⟩, fun x hx => ⟨fun hk => ⟨by omega, by omega, fun c hcc => ?_⟩, fun hk => ⟨fun _ => trivial, fun h => absurd rfl h⟩⟩⟩
    rw [Int.toNat_natCast] at hcc
    have hm := List.mem_of_getElem? hcc
    have h60 := hs60 c hm
    rw [money c hm (h2 _ _ hcc)]
    refine ⟨by omega, fun h => absurd rfl h, fun _ => ⟨fun h => by simp at h, fun _ => ⟨⟨x.k + 1, x.r - 1⟩, by dsimp only; omega, by dsimp only; omega, ?_⟩⟩⟩
    dsimp only
    exact (wr64 (by omega) (by omega)).trans (by omega)
  · have hj := (List.getElem?_eq_some_iff.1 h1).1
    rw [e0, h2, Nat.zero_add]
    dsimp only
    refine ⟨fun _ => ⟨fun b => b = false, ⟨fun _ => ⟨fun h => absurd rfl h, fun _ => ⟨fun h => absurd h (by omega), fun _ => ⟨fun _ => ⟨fun h => absurd h (by omega), fun _ => ⟨fun h => absurd h (by decide), fun _ => rfl⟩⟩, fun h => absurd rfl h⟩⟩⟩, fun h => absurd h (by decide)⟩, fun h => (by cases h), fun _ => ?_⟩, fun h => absurd rfl h⟩
    refine ⟨fun x => x.k + x.r = j, ⟨⟨0, j⟩, Nat.zero_add _, rfl⟩, fun x hx => ⟨fun hk => ⟨by omega, by omega, fun c hcc => ?_⟩, fun hk => ⟨fun _ => trivial, fun _ => ⟨by omega, by omega, fun c' hcc => ?_⟩⟩⟩⟩
    · rw [Int.toNat_natCast] at hcc
      have hm := List.mem_of_getElem? hcc
      have h60 := hs60 c hm
      rw [money c hm (h4 _ (by omega) _ hcc)]
      refine ⟨by omega, fun h => absurd rfl h, fun _ => ⟨fun h => by simp at h, fun _ => ⟨⟨x.k + 1, x.r - 1⟩, by dsimp only; omega, by dsimp only; omega, ?_⟩⟩⟩
      dsimp only
      exact (wr64 (by omega) (by omega)).trans (by omega)
    · rw [Int.toNat_natCast, h1] at hcc
      cases hcc
      have hm := List.mem_of_getElem? h1
      have h60 := hs60 c hm
      rw [unitP_of (hform c hm)]
      refine And.intro (by omega) ⟨fun _ => trivial, fun hn => ?_⟩
      cases hd : unitX c.pay with
      | none => rw [hd] at hn; exact absurd rfl hn
      | some d =>
        obtain ⟨a0, a1, a2, a3, rfl, _⟩ := unitX_3 c.pay (hform c hm) hd
        refine ⟨fun _ => ⟨fun _ => trivial, fun h => h3 ?_⟩, fun h => absurd rfl h⟩
        simp only [okP, List.getD_cons_zero, List.getD_cons_succ] at h
        rw [hd, h.1, h.2.1, h.2.2.1, h.2.2.2]
end Go.Proofs.YtpllflefaccmkaaDoor
