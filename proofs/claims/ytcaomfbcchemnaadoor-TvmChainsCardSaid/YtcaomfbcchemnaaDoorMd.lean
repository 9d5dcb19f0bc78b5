/- Merged texts: TvTa, TvTb, TvUd, TvUe. -/
import Derived.Test.YtcaomfbcchemnaaDoorMc
/- Chapter 21: digests: the summary of a block of SHA-256; the annotations of the digest's loops. -/
namespace Go.Proofs.YtcaomfbcchemnaaDoor
open Go
set_option linter.unusedVariables false
set_option linter.unusedSimpArgs false
def dBys (E : Eng thy) : Dc E (List Int) := (dList (E := E) Th.bys : Dc E (List (thy.dom Th.bys)))
def dByss (E : Eng thy) : Dc E (List (List Int)) := (dList (E := E) Th.byss : Dc E (List (thy.dom Th.byss)))
def row8 (H : List Int) : SV thy := .agg [.int false .u32 (H.getD 0 0), .int false .u32 (H.getD 1 0), .int false .u32 (H.getD 2 0), .int false .u32 (H.getD 3 0), .int false .u32 (H.getD 4 0), .int false .u32 (H.getD 5 0), .int false .u32 (H.getD 6 0), .int false .u32 (H.getD 7 0)]
theorem row8_eq {H : List Int} (h : H.length = 8) : rowV .u32 H = row8 H := all8 (P := fun H => rowV .u32 H = row8 H) (fun _ _ _ _ _ _ _ _ => rfl) H h
/-- kinds of rows that are laid without a type -/
def gthT (cs : List (SV thy)) : Option Th := match cs with | .int _ .u8 _ :: _ => some .bys | _ => none
noncomputable def Sblk : Sum thy := sumF E2 gthT 2 (.cons (dNums E2 .u32) (.cons (dBys E2) .nil)) (fun x => x.1.length = 8 ∧ x.2.1.length = 64) fun x => row8 (blkF x.1 x.2.1)
theorem Sblk_ok : SumOk E2 73 Sblk := sumF_ok E2_ok (good_of (f := 73) rfl) fun x h => by
  have := blk_pure h.1 h.2
  rw [row8_eq (blkF_len h.1 h.2)] at this
  exact this
/-- the loop of sum over the parts -/
def A58a : Fr thy → Hp thy → Nat → Ann2 thy := fun T h i => { X := DX, fr := fun s x => match s with | true => [(2, T 2), (3, .val (.slice none 0 0)), (10, T 10), (11, T 11), (12, .int false .i64 x.k)] | false => [(2, T 2), (3, .sl i 0 x.D.length 1 none), (10, T 10), (11, T 11), (12, .int false .i64 x.k)], bl := fun s x => match s with | true => blkP h (T 2) | false => (i, .rows Th.bys x.D 0) :: blkP h (T 2), src := fun s => match s with | true => [] | false => [(i, 3)], md := [], ih := i + 1, M := i + 40, meas := fun s x => x.r }
/-- the loop that fills up -/
def A58b : Fr thy → Hp thy → Nat → Ann thy := fun T h i => { X := DX, fr := fun x => [(2, T 2), (3, .sl i 0 x.D.length 1 none), (6, T 6)], bl := fun x => (i, .rows Th.bys x.D 0) :: blkP h (T 2), src := fun _ => [(i, 3)], md := [bOf (T 3)], ih := i + 1, M := i + 40, meas := fun x => x.r }
/-- the loop over the blocks -/
def A58c : Fr thy → Hp thy → Nat → Ann2 thy := fun T h i => { X := DX, fr := fun s x => match s with | true => [(2, T 2), (3, .sl (bOf (T 3)) x.n x.m 1 none), (8, T 8)] | false => [(2, T 2), (3, .psl Th.bys [] false), (8, T 8)], bl := fun s x => match s with | true => (bOf (T 8), .raw (row8 x.H).cells 0 none) :: (blkZ h (T 3) x.fz ++ blkP h (T 2)) | false => (bOf (T 8), .raw (row8 x.H).cells 0 none) :: blkP h (T 2), src := fun _ => [], md := [bOf (T 3), bOf (T 8)], ih := i, M := i + 60, meas := fun s x => x.r }
/-- the loop over the bytes of the length -/
def A58d : Fr thy → Hp thy → Nat → Ann thy := fun T h i => { X := DX, fr := fun x => [(2, T 2), (3, .sl i 0 x.D.length 1 none), (6, T 6), (7, .int false .i64 x.j)], bl := fun x => (i, .rows Th.bys x.D 0) :: blkP h (T 2), src := fun _ => [(i, 3)], md := [bOf (T 3)], ih := i + 1, M := i + 40, meas := fun x => x.r }
noncomputable def F20 : Fns thy := addL (addL2 (addL (addL2 (addS F0 73 Sblk) 58 3 A58a E2) 58 9 A58b E2) 58 16 A58c E2) 58 12 A58d E2
theorem F20_ok : FnsOk E2 F20 := addL_ok E2_ok (addL2_ok E2_ok (addL_ok E2_ok (addL2_ok E2_ok (addS_ok F0_ok2 Sblk_ok) _ _ _) _ _ _) _ _ _) _ _ _
def dig32 (d : List Int) : SV thy := .agg [.int false .u8 (d.getD 0 0), .int false .u8 (d.getD 1 0), .int false .u8 (d.getD 2 0), .int false .u8 (d.getD 3 0), .int false .u8 (d.getD 4 0), .int false .u8 (d.getD 5 0), .int false .u8 (d.getD 6 0), .int false .u8 (d.getD 7 0), .int false .u8 (d.getD 8 0), .int false .u8 (d.getD 9 0), .int false .u8 (d.getD 10 0), .int false .u8 (d.getD 11 0), .int false .u8 (d.getD 12 0), .int false .u8 (d.getD 13 0), .int false .u8 (d.getD 14 0), .int false .u8 (d.getD 15 0), .int false .u8 (d.getD 16 0), .int false .u8 (d.getD 17 0), .int false .u8 (d.getD 18 0), .int false .u8 (d.getD 19 0), .int false .u8 (d.getD 20 0), .int false .u8 (d.getD 21 0), .int false .u8 (d.getD 22 0), .int false .u8 (d.getD 23 0), .int false .u8 (d.getD 24 0), .int false .u8 (d.getD 25 0), .int false .u8 (d.getD 26 0), .int false .u8 (d.getD 27 0), .int false .u8 (d.getD 28 0), .int false .u8 (d.getD 29 0), .int false .u8 (d.getD 30 0), .int false .u8 (d.getD 31 0)]
--@cond sum | 58 | E2:F20 | 400 | (ps : List (List Int)) | [.psl Th.byss ps false] | (d : List Int) | dig32 d
theorem cond_sum (ps : List (List Int)) (d : List Int) : callF E2 F20 (vc E2 F20 400) 58 [.psl Th.byss ps false] hp0 0 (fun r => ret E2 (patch hp0 0 r) r.v (dig32 d)) = (
  ∃ (R : Bool → DX → Prop), ((∃ (x : DX), R true x ∧ true = true ∧ ((0 : Nat) = (0 : Nat) ∧ Value.slice none (0 : Nat) (0 : Nat) = Value.slice none (0 : Nat) (0 : Nat) ∧ (ps = ps ∧
  (false = true → false = true)) ∧ (↑(List.length ps) : Int) = (↑(List.length ps) : Int) ∧ (0 : Int) = (↑(DX.k x) : Int) ∧ True) ∧ ((0 : Int) = (0 : Int) ∧ (0 : Int) = (0 : Int) ∧ (0
  : Int) = (0 : Int) ∧ (0 : Int) = (0 : Int) ∧ (0 : Int) = (0 : Int) ∧ (0 : Int) = (0 : Int) ∧ (0 : Int) = (0 : Int) ∧ (0 : Int) = (0 : Int) ∧ (0 : Int) = (0 : Int) ∧ (0 : Int) = (0
  : Int) ∧ (0 : Int) = (0 : Int) ∧ (0 : Int) = (0 : Int) ∧ (0 : Int) = (0 : Int) ∧ (0 : Int) = (0 : Int) ∧ (0 : Int) = (0 : Int) ∧ (0 : Int) = (0 : Int) ∧ (0 : Int) = (0 : Int) ∧ (0
  : Int) = (0 : Int) ∧ (0 : Int) = (0 : Int) ∧ (0 : Int) = (0 : Int) ∧ (0 : Int) = (0 : Int) ∧ (0 : Int) = (0 : Int) ∧ (0 : Int) = (0 : Int) ∧ (0 : Int) = (0 : Int) ∧ (0 : Int) = (0
  : Int) ∧ (0 : Int) = (0 : Int) ∧ (0 : Int) = (0 : Int) ∧ (0 : Int) = (0 : Int) ∧ (0 : Int) = (0 : Int) ∧ (0 : Int) = (0 : Int) ∧ (0 : Int) = (0 : Int) ∧ (0 : Int) = (0 : Int) ∧
  True) ∧ True) ∨ ∃ (x : DX), R false x ∧ true = true ∧ False) ∧ (∀ (x : DX), R true x → (decide ((↑(DX.k x) : Int) < (↑(List.length ps) : Int)) = true → (0 : Int) ≤ (↑(DX.k x) :
  Int) ∧ (↑(DX.k x) : Int) + (1 : Int) ≤ (↑(List.length ps) : Int) ∧ ∀ (x_1 : List Int), ps[Int.toNat (↑(DX.k x) : Int)]? = some x_1 → (x_1 = ([] : List Int) → (∃ (x' : DX), R true
  x' ∧ x'.2 + (1 : Nat) ≤ x.2 ∧ true = true ∧ ((0 : Nat) = (0 : Nat) ∧ Value.slice none (0 : Nat) (0 : Nat) = Value.slice none (0 : Nat) (0 : Nat) ∧ (ps = ps ∧ (false = true → false
  = true)) ∧ (↑(List.length ps) : Int) = (↑(List.length ps) : Int) ∧ wr IntKind.i64 ((↑(DX.k x) : Int) + (1 : Int)) = (↑(DX.k x') : Int) ∧ True) ∧ ((0 : Int) = (0 : Int) ∧ (0 : Int)
  = (0 : Int) ∧ (0 : Int) = (0 : Int) ∧ (0 : Int) = (0 : Int) ∧ (0 : Int) = (0 : Int) ∧ (0 : Int) = (0 : Int) ∧ (0 : Int) = (0 : Int) ∧ (0 : Int) = (0 : Int) ∧ (0 : Int) = (0 : Int)
  ∧ (0 : Int) = (0 : Int) ∧ (0 : Int) = (0 : Int) ∧ (0 : Int) = (0 : Int) ∧ (0 : Int) = (0 : Int) ∧ (0 : Int) = (0 : Int) ∧ (0 : Int) = (0 : Int) ∧ (0 : Int) = (0 : Int) ∧ (0 : Int)
  = (0 : Int) ∧ (0 : Int) = (0 : Int) ∧ (0 : Int) = (0 : Int) ∧ (0 : Int) = (0 : Int) ∧ (0 : Int) = (0 : Int) ∧ (0 : Int) = (0 : Int) ∧ (0 : Int) = (0 : Int) ∧ (0 : Int) = (0 : Int)
  ∧ (0 : Int) = (0 : Int) ∧ (0 : Int) = (0 : Int) ∧ (0 : Int) = (0 : Int) ∧ (0 : Int) = (0 : Int) ∧ (0 : Int) = (0 : Int) ∧ (0 : Int) = (0 : Int) ∧ (0 : Int) = (0 : Int) ∧ (0 : Int)
  = (0 : Int) ∧ True) ∧ True) ∨ ∃ (x' : DX), R false x' ∧ x'.2 + (1 : Nat) ≤ x.2 ∧ true = true ∧ False) ∧ (x_1 ≠ ([] : List Int) → List.length x_1 * (1 : Nat) ≤ (140737488355328 :
  Nat) ∧ ((∃ (x' : DX), R true x' ∧ x'.2 + (1 : Nat) ≤ x.2 ∧ true = true ∧ ((0 : Nat) = (0 : Nat) ∧ False ∧ (ps = ps ∧ (false = true → false = true)) ∧ (↑(List.length ps) : Int) =
  (↑(List.length ps) : Int) ∧ wr IntKind.i64 ((↑(DX.k x) : Int) + (1 : Int)) = (↑(DX.k x') : Int) ∧ True) ∧ ((0 : Int) = (0 : Int) ∧ (0 : Int) = (0 : Int) ∧ (0 : Int) = (0 : Int) ∧
  (0 : Int) = (0 : Int) ∧ (0 : Int) = (0 : Int) ∧ (0 : Int) = (0 : Int) ∧ (0 : Int) = (0 : Int) ∧ (0 : Int) = (0 : Int) ∧ (0 : Int) = (0 : Int) ∧ (0 : Int) = (0 : Int) ∧ (0 : Int) =
  (0 : Int) ∧ (0 : Int) = (0 : Int) ∧ (0 : Int) = (0 : Int) ∧ (0 : Int) = (0 : Int) ∧ (0 : Int) = (0 : Int) ∧ (0 : Int) = (0 : Int) ∧ (0 : Int) = (0 : Int) ∧ (0 : Int) = (0 : Int) ∧
  (0 : Int) = (0 : Int) ∧ (0 : Int) = (0 : Int) ∧ (0 : Int) = (0 : Int) ∧ (0 : Int) = (0 : Int) ∧ (0 : Int) = (0 : Int) ∧ (0 : Int) = (0 : Int) ∧ (0 : Int) = (0 : Int) ∧ (0 : Int) =
  (0 : Int) ∧ (0 : Int) = (0 : Int) ∧ (0 : Int) = (0 : Int) ∧ (0 : Int) = (0 : Int) ∧ (0 : Int) = (0 : Int) ∧ (0 : Int) = (0 : Int) ∧ (0 : Int) = (0 : Int) ∧ True) ∧ True) ∨ ∃ (x' :
  DX), R false x' ∧ x'.2 + (1 : Nat) ≤ x.2 ∧ true = true ∧ ((0 : Nat) = (0 : Nat) ∧ ((0 : Nat) = (0 : Nat) ∧ List.length x_1 = List.length (DX.D x') ∧ True) ∧ (ps = ps ∧ (false =
  true → false = true)) ∧ (↑(List.length ps) : Int) = (↑(List.length ps) : Int) ∧ wr IntKind.i64 ((↑(DX.k x) : Int) + (1 : Int)) = (↑(DX.k x') : Int) ∧ True) ∧ (x_1 = DX.D x' ∧ (0 :
  Nat) = (0 : Nat)) ∧ ((0 : Int) = (0 : Int) ∧ (0 : Int) = (0 : Int) ∧ (0 : Int) = (0 : Int) ∧ (0 : Int) = (0 : Int) ∧ (0 : Int) = (0 : Int) ∧ (0 : Int) = (0 : Int) ∧ (0 : Int) = (0
  : Int) ∧ (0 : Int) = (0 : Int) ∧ (0 : Int) = (0 : Int) ∧ (0 : Int) = (0 : Int) ∧ (0 : Int) = (0 : Int) ∧ (0 : Int) = (0 : Int) ∧ (0 : Int) = (0 : Int) ∧ (0 : Int) = (0 : Int) ∧ (0
  : Int) = (0 : Int) ∧ (0 : Int) = (0 : Int) ∧ (0 : Int) = (0 : Int) ∧ (0 : Int) = (0 : Int) ∧ (0 : Int) = (0 : Int) ∧ (0 : Int) = (0 : Int) ∧ (0 : Int) = (0 : Int) ∧ (0 : Int) = (0
  : Int) ∧ (0 : Int) = (0 : Int) ∧ (0 : Int) = (0 : Int) ∧ (0 : Int) = (0 : Int) ∧ (0 : Int) = (0 : Int) ∧ (0 : Int) = (0 : Int) ∧ (0 : Int) = (0 : Int) ∧ (0 : Int) = (0 : Int) ∧ (0
  : Int) = (0 : Int) ∧ (0 : Int) = (0 : Int) ∧ (0 : Int) = (0 : Int) ∧ True) ∧ True))) ∧ (decide ((↑(DX.k x) : Int) < (↑(List.length ps) : Int)) = false → ∃ (R : DX → Prop), (∃ (x :
  DX), R x ∧ true = true ∧ ((0 : Nat) = (0 : Nat) ∧ ((0 : Nat) = (0 : Nat) ∧ (1 : Nat) = List.length (DX.D x) ∧ True) ∧ (0 : Int) = (0 : Int) ∧ True) ∧ ([(128 : Int)] = DX.D x ∧ (0 :
  Nat) = (0 : Nat)) ∧ ((0 : Int) = (0 : Int) ∧ (0 : Int) = (0 : Int) ∧ (0 : Int) = (0 : Int) ∧ (0 : Int) = (0 : Int) ∧ (0 : Int) = (0 : Int) ∧ (0 : Int) = (0 : Int) ∧ (0 : Int) = (0
  : Int) ∧ (0 : Int) = (0 : Int) ∧ (0 : Int) = (0 : Int) ∧ (0 : Int) = (0 : Int) ∧ (0 : Int) = (0 : Int) ∧ (0 : Int) = (0 : Int) ∧ (0 : Int) = (0 : Int) ∧ (0 : Int) = (0 : Int) ∧ (0
  : Int) = (0 : Int) ∧ (0 : Int) = (0 : Int) ∧ (0 : Int) = (0 : Int) ∧ (0 : Int) = (0 : Int) ∧ (0 : Int) = (0 : Int) ∧ (0 : Int) = (0 : Int) ∧ (0 : Int) = (0 : Int) ∧ (0 : Int) = (0
  : Int) ∧ (0 : Int) = (0 : Int) ∧ (0 : Int) = (0 : Int) ∧ (0 : Int) = (0 : Int) ∧ (0 : Int) = (0 : Int) ∧ (0 : Int) = (0 : Int) ∧ (0 : Int) = (0 : Int) ∧ (0 : Int) = (0 : Int) ∧ (0
  : Int) = (0 : Int) ∧ (0 : Int) = (0 : Int) ∧ (0 : Int) = (0 : Int) ∧ True) ∧ True) ∧ ∀ (x : DX), R x → ((Int.tmod (↑(List.length (DX.D x)) : Int) (64 : Int) != (56 : Int)) = true →
  (List.length (DX.D x) ≤ List.length (DX.D x) ∧ (0 : Nat) ≤ List.length (DX.D x) ∧ (List.length (DX.D x) + (1 : Nat)) * (1 : Nat) ≤ (140737488355328 : Nat)) ∧ ∃ (x' : DX), R x' ∧
  x'.2 + (1 : Nat) ≤ x.2 ∧ true = true ∧ ((0 : Nat) = (0 : Nat) ∧ ((0 : Nat) = (0 : Nat) ∧ List.length (DX.D x) + (1 : Nat) = List.length (DX.D x') ∧ True) ∧ (0 : Int) = (0 : Int) ∧
  True) ∧ (List.take (List.length (DX.D x)) (DX.D x) ++ [(0 : Int)] = DX.D x' ∧ (0 : Nat) = (0 : Nat)) ∧ ((0 : Int) = (0 : Int) ∧ (0 : Int) = (0 : Int) ∧ (0 : Int) = (0 : Int) ∧ (0 :
  Int) = (0 : Int) ∧ (0 : Int) = (0 : Int) ∧ (0 : Int) = (0 : Int) ∧ (0 : Int) = (0 : Int) ∧ (0 : Int) = (0 : Int) ∧ (0 : Int) = (0 : Int) ∧ (0 : Int) = (0 : Int) ∧ (0 : Int) = (0 :
  Int) ∧ (0 : Int) = (0 : Int) ∧ (0 : Int) = (0 : Int) ∧ (0 : Int) = (0 : Int) ∧ (0 : Int) = (0 : Int) ∧ (0 : Int) = (0 : Int) ∧ (0 : Int) = (0 : Int) ∧ (0 : Int) = (0 : Int) ∧ (0 :
  Int) = (0 : Int) ∧ (0 : Int) = (0 : Int) ∧ (0 : Int) = (0 : Int) ∧ (0 : Int) = (0 : Int) ∧ (0 : Int) = (0 : Int) ∧ (0 : Int) = (0 : Int) ∧ (0 : Int) = (0 : Int) ∧ (0 : Int) = (0 :
  Int) ∧ (0 : Int) = (0 : Int) ∧ (0 : Int) = (0 : Int) ∧ (0 : Int) = (0 : Int) ∧ (0 : Int) = (0 : Int) ∧ (0 : Int) = (0 : Int) ∧ (0 : Int) = (0 : Int) ∧ True) ∧ True) ∧ ((Int.tmod
  (↑(List.length (DX.D x)) : Int) (64 : Int) != (56 : Int)) = false → ∃ (R : DX → Prop), (∃ (x_1 : DX), R x_1 ∧ true = true ∧ ((0 : Nat) = (0 : Nat) ∧ ((0 : Nat) = (0 : Nat) ∧
  List.length (DX.D x) = List.length (DX.D x_1) ∧ True) ∧ (0 : Int) = (0 : Int) ∧ (56 : Int) = DX.j x_1 ∧ True) ∧ (DX.D x = DX.D x_1 ∧ (0 : Nat) = (0 : Nat)) ∧ ((0 : Int) = (0 : Int)
  ∧ (0 : Int) = (0 : Int) ∧ (0 : Int) = (0 : Int) ∧ (0 : Int) = (0 : Int) ∧ (0 : Int) = (0 : Int) ∧ (0 : Int) = (0 : Int) ∧ (0 : Int) = (0 : Int) ∧ (0 : Int) = (0 : Int) ∧ (0 : Int)
  = (0 : Int) ∧ (0 : Int) = (0 : Int) ∧ (0 : Int) = (0 : Int) ∧ (0 : Int) = (0 : Int) ∧ (0 : Int) = (0 : Int) ∧ (0 : Int) = (0 : Int) ∧ (0 : Int) = (0 : Int) ∧ (0 : Int) = (0 : Int)
  ∧ (0 : Int) = (0 : Int) ∧ (0 : Int) = (0 : Int) ∧ (0 : Int) = (0 : Int) ∧ (0 : Int) = (0 : Int) ∧ (0 : Int) = (0 : Int) ∧ (0 : Int) = (0 : Int) ∧ (0 : Int) = (0 : Int) ∧ (0 : Int)
  = (0 : Int) ∧ (0 : Int) = (0 : Int) ∧ (0 : Int) = (0 : Int) ∧ (0 : Int) = (0 : Int) ∧ (0 : Int) = (0 : Int) ∧ (0 : Int) = (0 : Int) ∧ (0 : Int) = (0 : Int) ∧ (0 : Int) = (0 : Int)
  ∧ (0 : Int) = (0 : Int) ∧ True) ∧ True) ∧ ∀ (x : DX), R x → (decide (DX.j x ≥ (0 : Int)) = true → (0 : Int) ≤ DX.j x ∧ (List.length (DX.D x) ≤ List.length (DX.D x) ∧ (0 : Nat) ≤
  List.length (DX.D x) ∧ (List.length (DX.D x) + (1 : Nat)) * (1 : Nat) ≤ (140737488355328 : Nat)) ∧ ∃ (x' : DX), R x' ∧ x'.2 + (1 : Nat) ≤ x.2 ∧ true = true ∧ ((0 : Nat) = (0 : Nat)
  ∧ ((0 : Nat) = (0 : Nat) ∧ List.length (DX.D x) + (1 : Nat) = List.length (DX.D x') ∧ True) ∧ (0 : Int) = (0 : Int) ∧ wr IntKind.i64 (DX.j x - (8 : Int)) = DX.j x' ∧ True) ∧
  (List.take (List.length (DX.D x)) (DX.D x) ++ [wr IntKind.u8 (Int.fdiv (0 : Int) ((2 : Int) ^ min (Int.toNat (DX.j x)) (IntKind.bits IntKind.u64)))] = DX.D x' ∧ (0 : Nat) = (0 :
  Nat)) ∧ ((0 : Int) = (0 : Int) ∧ (0 : Int) = (0 : Int) ∧ (0 : Int) = (0 : Int) ∧ (0 : Int) = (0 : Int) ∧ (0 : Int) = (0 : Int) ∧ (0 : Int) = (0 : Int) ∧ (0 : Int) = (0 : Int) ∧ (0
  : Int) = (0 : Int) ∧ (0 : Int) = (0 : Int) ∧ (0 : Int) = (0 : Int) ∧ (0 : Int) = (0 : Int) ∧ (0 : Int) = (0 : Int) ∧ (0 : Int) = (0 : Int) ∧ (0 : Int) = (0 : Int) ∧ (0 : Int) = (0
  : Int) ∧ (0 : Int) = (0 : Int) ∧ (0 : Int) = (0 : Int) ∧ (0 : Int) = (0 : Int) ∧ (0 : Int) = (0 : Int) ∧ (0 : Int) = (0 : Int) ∧ (0 : Int) = (0 : Int) ∧ (0 : Int) = (0 : Int) ∧ (0
  : Int) = (0 : Int) ∧ (0 : Int) = (0 : Int) ∧ (0 : Int) = (0 : Int) ∧ (0 : Int) = (0 : Int) ∧ (0 : Int) = (0 : Int) ∧ (0 : Int) = (0 : Int) ∧ (0 : Int) = (0 : Int) ∧ (0 : Int) = (0
  : Int) ∧ (0 : Int) = (0 : Int) ∧ (0 : Int) = (0 : Int) ∧ True) ∧ True) ∧ (decide (DX.j x ≥ (0 : Int)) = false → ∃ (R : Bool → DX → Prop), ((∃ (x_1 : DX), R true x_1 ∧ true = true ∧
  ((0 : Nat) = (0 : Nat) ∧ ((0 : Nat) = DX.n x_1 ∧ List.length (DX.D x) = DX.m x_1 ∧ True) ∧ (0 : Nat) = (0 : Nat) ∧ True) ∧ ((1779033703 : Int) = List.getD (DX.H x_1) (0 : Nat) (0 :
  Int) ∧ (3144134277 : Int) = List.getD (DX.H x_1) (1 : Nat) (0 : Int) ∧ (1013904242 : Int) = List.getD (DX.H x_1) (2 : Nat) (0 : Int) ∧ (2773480762 : Int) = List.getD (DX.H x_1) (3
  : Nat) (0 : Int) ∧ (1359893119 : Int) = List.getD (DX.H x_1) (4 : Nat) (0 : Int) ∧ (2600822924 : Int) = List.getD (DX.H x_1) (5 : Nat) (0 : Int) ∧ (528734635 : Int) = List.getD
  (DX.H x_1) (6 : Nat) (0 : Int) ∧ (1541459225 : Int) = List.getD (DX.H x_1) (7 : Nat) (0 : Int) ∧ True) ∧ (DX.D x = DX.D x ∧ (0 : Nat) = DX.fz x_1) ∧ ((0 : Int) = (0 : Int) ∧ (0 :
  Int) = (0 : Int) ∧ (0 : Int) = (0 : Int) ∧ (0 : Int) = (0 : Int) ∧ (0 : Int) = (0 : Int) ∧ (0 : Int) = (0 : Int) ∧ (0 : Int) = (0 : Int) ∧ (0 : Int) = (0 : Int) ∧ (0 : Int) = (0 :
  Int) ∧ (0 : Int) = (0 : Int) ∧ (0 : Int) = (0 : Int) ∧ (0 : Int) = (0 : Int) ∧ (0 : Int) = (0 : Int) ∧ (0 : Int) = (0 : Int) ∧ (0 : Int) = (0 : Int) ∧ (0 : Int) = (0 : Int) ∧ (0 :
  Int) = (0 : Int) ∧ (0 : Int) = (0 : Int) ∧ (0 : Int) = (0 : Int) ∧ (0 : Int) = (0 : Int) ∧ (0 : Int) = (0 : Int) ∧ (0 : Int) = (0 : Int) ∧ (0 : Int) = (0 : Int) ∧ (0 : Int) = (0 :
  Int) ∧ (0 : Int) = (0 : Int) ∧ (0 : Int) = (0 : Int) ∧ (0 : Int) = (0 : Int) ∧ (0 : Int) = (0 : Int) ∧ (0 : Int) = (0 : Int) ∧ (0 : Int) = (0 : Int) ∧ (0 : Int) = (0 : Int) ∧ (0 :
  Int) = (0 : Int) ∧ True) ∧ True) ∨ ∃ (x : DX), R false x ∧ true = true ∧ ((0 : Nat) = (0 : Nat) ∧ False ∧ (0 : Nat) = (0 : Nat) ∧ True) ∧ ((1779033703 : Int) = List.getD (DX.H x)
  (0 : Nat) (0 : Int) ∧ (3144134277 : Int) = List.getD (DX.H x) (1 : Nat) (0 : Int) ∧ (1013904242 : Int) = List.getD (DX.H x) (2 : Nat) (0 : Int) ∧ (2773480762 : Int) = List.getD
  (DX.H x) (3 : Nat) (0 : Int) ∧ (1359893119 : Int) = List.getD (DX.H x) (4 : Nat) (0 : Int) ∧ (2600822924 : Int) = List.getD (DX.H x) (5 : Nat) (0 : Int) ∧ (528734635 : Int) =
  List.getD (DX.H x) (6 : Nat) (0 : Int) ∧ (1541459225 : Int) = List.getD (DX.H x) (7 : Nat) (0 : Int) ∧ True) ∧ ((0 : Int) = (0 : Int) ∧ (0 : Int) = (0 : Int) ∧ (0 : Int) = (0 :
  Int) ∧ (0 : Int) = (0 : Int) ∧ (0 : Int) = (0 : Int) ∧ (0 : Int) = (0 : Int) ∧ (0 : Int) = (0 : Int) ∧ (0 : Int) = (0 : Int) ∧ (0 : Int) = (0 : Int) ∧ (0 : Int) = (0 : Int) ∧ (0 :
  Int) = (0 : Int) ∧ (0 : Int) = (0 : Int) ∧ (0 : Int) = (0 : Int) ∧ (0 : Int) = (0 : Int) ∧ (0 : Int) = (0 : Int) ∧ (0 : Int) = (0 : Int) ∧ (0 : Int) = (0 : Int) ∧ (0 : Int) = (0 :
  Int) ∧ (0 : Int) = (0 : Int) ∧ (0 : Int) = (0 : Int) ∧ (0 : Int) = (0 : Int) ∧ (0 : Int) = (0 : Int) ∧ (0 : Int) = (0 : Int) ∧ (0 : Int) = (0 : Int) ∧ (0 : Int) = (0 : Int) ∧ (0 :
  Int) = (0 : Int) ∧ (0 : Int) = (0 : Int) ∧ (0 : Int) = (0 : Int) ∧ (0 : Int) = (0 : Int) ∧ (0 : Int) = (0 : Int) ∧ (0 : Int) = (0 : Int) ∧ (0 : Int) = (0 : Int) ∧ True) ∧ True) ∧
  (∀ (x_1 : DX), R true x_1 → (decide ((↑(DX.m x_1) : Int) > (0 : Int)) = true → ((0 : Int) ≤ (64 : Int) ∧ (64 : Int) ≤ (↑(DX.m x_1) : Int)) ∧ DX.n x_1 + Int.toNat (64 : Int) ≤
  List.length (DX.D x) ∧ ((8 : Nat) = (8 : Nat) ∧ List.length (List.take (Int.toNat (64 : Int)) (List.drop (DX.n x_1) (DX.D x))) = (64 : Nat)) ∧ ((0 : Int) ≤ (64 : Int) ∧ (64 : Int)
  ≤ (↑(DX.m x_1) : Int)) ∧ (decide ((64 : Int) < (↑(DX.m x_1) : Int)) = true → (∃ (x' : DX), R true x' ∧ x'.2 + (1 : Nat) ≤ x_1.2 ∧ true = true ∧ ((0 : Nat) = (0 : Nat) ∧ (DX.n x_1 +
  Int.toNat (64 : Int) = DX.n x' ∧ DX.m x_1 - Int.toNat (64 : Int) = DX.m x' ∧ True) ∧ (0 : Nat) = (0 : Nat) ∧ True) ∧ (List.getD (blkF [List.getD (DX.H x_1) (0 : Nat) (0 : Int),
  List.getD (DX.H x_1) (1 : Nat) (0 : Int), List.getD (DX.H x_1) (2 : Nat) (0 : Int), List.getD (DX.H x_1) (3 : Nat) (0 : Int), List.getD (DX.H x_1) (4 : Nat) (0 : Int), List.getD
  (DX.H x_1) (5 : Nat) (0 : Int), List.getD (DX.H x_1) (6 : Nat) (0 : Int), List.getD (DX.H x_1) (7 : Nat) (0 : Int)] (List.take (Int.toNat (64 : Int)) (List.drop (DX.n x_1) (DX.D
  x)))) (0 : Nat) (0 : Int) = List.getD (DX.H x') (0 : Nat) (0 : Int) ∧ List.getD (blkF [List.getD (DX.H x_1) (0 : Nat) (0 : Int), List.getD (DX.H x_1) (1 : Nat) (0 : Int), List.getD
  (DX.H x_1) (2 : Nat) (0 : Int), List.getD (DX.H x_1) (3 : Nat) (0 : Int), List.getD (DX.H x_1) (4 : Nat) (0 : Int), List.getD (DX.H x_1) (5 : Nat) (0 : Int), List.getD (DX.H x_1)
  (6 : Nat) (0 : Int), List.getD (DX.H x_1) (7 : Nat) (0 : Int)] (List.take (Int.toNat (64 : Int)) (List.drop (DX.n x_1) (DX.D x)))) (1 : Nat) (0 : Int) = List.getD (DX.H x') (1 :
  Nat) (0 : Int) ∧ List.getD (blkF [List.getD (DX.H x_1) (0 : Nat) (0 : Int), List.getD (DX.H x_1) (1 : Nat) (0 : Int), List.getD (DX.H x_1) (2 : Nat) (0 : Int), List.getD (DX.H x_1)
  (3 : Nat) (0 : Int), List.getD (DX.H x_1) (4 : Nat) (0 : Int), List.getD (DX.H x_1) (5 : Nat) (0 : Int), List.getD (DX.H x_1) (6 : Nat) (0 : Int), List.getD (DX.H x_1) (7 : Nat) (0
  : Int)] (List.take (Int.toNat (64 : Int)) (List.drop (DX.n x_1) (DX.D x)))) (2 : Nat) (0 : Int) = List.getD (DX.H x') (2 : Nat) (0 : Int) ∧ List.getD (blkF [List.getD (DX.H x_1) (0
  : Nat) (0 : Int), List.getD (DX.H x_1) (1 : Nat) (0 : Int), List.getD (DX.H x_1) (2 : Nat) (0 : Int), List.getD (DX.H x_1) (3 : Nat) (0 : Int), List.getD (DX.H x_1) (4 : Nat) (0 :
  Int), List.getD (DX.H x_1) (5 : Nat) (0 : Int), List.getD (DX.H x_1) (6 : Nat) (0 : Int), List.getD (DX.H x_1) (7 : Nat) (0 : Int)] (List.take (Int.toNat (64 : Int)) (List.drop
  (DX.n x_1) (DX.D x)))) (3 : Nat) (0 : Int) = List.getD (DX.H x') (3 : Nat) (0 : Int) ∧ List.getD (blkF [List.getD (DX.H x_1) (0 : Nat) (0 : Int), List.getD (DX.H x_1) (1 : Nat) (0
  : Int), List.getD (DX.H x_1) (2 : Nat) (0 : Int), List.getD (DX.H x_1) (3 : Nat) (0 : Int), List.getD (DX.H x_1) (4 : Nat) (0 : Int), List.getD (DX.H x_1) (5 : Nat) (0 : Int),
  List.getD (DX.H x_1) (6 : Nat) (0 : Int), List.getD (DX.H x_1) (7 : Nat) (0 : Int)] (List.take (Int.toNat (64 : Int)) (List.drop (DX.n x_1) (DX.D x)))) (4 : Nat) (0 : Int) =
  List.getD (DX.H x') (4 : Nat) (0 : Int) ∧ List.getD (blkF [List.getD (DX.H x_1) (0 : Nat) (0 : Int), List.getD (DX.H x_1) (1 : Nat) (0 : Int), List.getD (DX.H x_1) (2 : Nat) (0 :
  Int), List.getD (DX.H x_1) (3 : Nat) (0 : Int), List.getD (DX.H x_1) (4 : Nat) (0 : Int), List.getD (DX.H x_1) (5 : Nat) (0 : Int), List.getD (DX.H x_1) (6 : Nat) (0 : Int),
  List.getD (DX.H x_1) (7 : Nat) (0 : Int)] (List.take (Int.toNat (64 : Int)) (List.drop (DX.n x_1) (DX.D x)))) (5 : Nat) (0 : Int) = List.getD (DX.H x') (5 : Nat) (0 : Int) ∧
  List.getD (blkF [List.getD (DX.H x_1) (0 : Nat) (0 : Int), List.getD (DX.H x_1) (1 : Nat) (0 : Int), List.getD (DX.H x_1) (2 : Nat) (0 : Int), List.getD (DX.H x_1) (3 : Nat) (0 :
  Int), List.getD (DX.H x_1) (4 : Nat) (0 : Int), List.getD (DX.H x_1) (5 : Nat) (0 : Int), List.getD (DX.H x_1) (6 : Nat) (0 : Int), List.getD (DX.H x_1) (7 : Nat) (0 : Int)]
  (List.take (Int.toNat (64 : Int)) (List.drop (DX.n x_1) (DX.D x)))) (6 : Nat) (0 : Int) = List.getD (DX.H x') (6 : Nat) (0 : Int) ∧ List.getD (blkF [List.getD (DX.H x_1) (0 : Nat)
  (0 : Int), List.getD (DX.H x_1) (1 : Nat) (0 : Int), List.getD (DX.H x_1) (2 : Nat) (0 : Int), List.getD (DX.H x_1) (3 : Nat) (0 : Int), List.getD (DX.H x_1) (4 : Nat) (0 : Int),
  List.getD (DX.H x_1) (5 : Nat) (0 : Int), List.getD (DX.H x_1) (6 : Nat) (0 : Int), List.getD (DX.H x_1) (7 : Nat) (0 : Int)] (List.take (Int.toNat (64 : Int)) (List.drop (DX.n
  x_1) (DX.D x)))) (7 : Nat) (0 : Int) = List.getD (DX.H x') (7 : Nat) (0 : Int) ∧ True) ∧ (DX.D x = DX.D x ∧ mx2 (DX.fz x_1) (List.length (DX.D x)) = DX.fz x') ∧ ((0 : Int) = (0 :
  Int) ∧ (0 : Int) = (0 : Int) ∧ (0 : Int) = (0 : Int) ∧ (0 : Int) = (0 : Int) ∧ (0 : Int) = (0 : Int) ∧ (0 : Int) = (0 : Int) ∧ (0 : Int) = (0 : Int) ∧ (0 : Int) = (0 : Int) ∧ (0 :
  Int) = (0 : Int) ∧ (0 : Int) = (0 : Int) ∧ (0 : Int) = (0 : Int) ∧ (0 : Int) = (0 : Int) ∧ (0 : Int) = (0 : Int) ∧ (0 : Int) = (0 : Int) ∧ (0 : Int) = (0 : Int) ∧ (0 : Int) = (0 :
  Int) ∧ (0 : Int) = (0 : Int) ∧ (0 : Int) = (0 : Int) ∧ (0 : Int) = (0 : Int) ∧ (0 : Int) = (0 : Int) ∧ (0 : Int) = (0 : Int) ∧ (0 : Int) = (0 : Int) ∧ (0 : Int) = (0 : Int) ∧ (0 :
  Int) = (0 : Int) ∧ (0 : Int) = (0 : Int) ∧ (0 : Int) = (0 : Int) ∧ (0 : Int) = (0 : Int) ∧ (0 : Int) = (0 : Int) ∧ (0 : Int) = (0 : Int) ∧ (0 : Int) = (0 : Int) ∧ (0 : Int) = (0 :
  Int) ∧ (0 : Int) = (0 : Int) ∧ True) ∧ True) ∨ ∃ (x' : DX), R false x' ∧ x'.2 + (1 : Nat) ≤ x_1.2 ∧ true = true ∧ ((0 : Nat) = (0 : Nat) ∧ False ∧ (0 : Nat) = (0 : Nat) ∧ True) ∧
  (List.getD (blkF [List.getD (DX.H x_1) (0 : Nat) (0 : Int), List.getD (DX.H x_1) (1 : Nat) (0 : Int), List.getD (DX.H x_1) (2 : Nat) (0 : Int), List.getD (DX.H x_1) (3 : Nat) (0 :
  Int), List.getD (DX.H x_1) (4 : Nat) (0 : Int), List.getD (DX.H x_1) (5 : Nat) (0 : Int), List.getD (DX.H x_1) (6 : Nat) (0 : Int), List.getD (DX.H x_1) (7 : Nat) (0 : Int)]
  (List.take (Int.toNat (64 : Int)) (List.drop (DX.n x_1) (DX.D x)))) (0 : Nat) (0 : Int) = List.getD (DX.H x') (0 : Nat) (0 : Int) ∧ List.getD (blkF [List.getD (DX.H x_1) (0 : Nat)
  (0 : Int), List.getD (DX.H x_1) (1 : Nat) (0 : Int), List.getD (DX.H x_1) (2 : Nat) (0 : Int), List.getD (DX.H x_1) (3 : Nat) (0 : Int), List.getD (DX.H x_1) (4 : Nat) (0 : Int),
  List.getD (DX.H x_1) (5 : Nat) (0 : Int), List.getD (DX.H x_1) (6 : Nat) (0 : Int), List.getD (DX.H x_1) (7 : Nat) (0 : Int)] (List.take (Int.toNat (64 : Int)) (List.drop (DX.n
  x_1) (DX.D x)))) (1 : Nat) (0 : Int) = List.getD (DX.H x') (1 : Nat) (0 : Int) ∧ List.getD (blkF [List.getD (DX.H x_1) (0 : Nat) (0 : Int), List.getD (DX.H x_1) (1 : Nat) (0 :
  Int), List.getD (DX.H x_1) (2 : Nat) (0 : Int), List.getD (DX.H x_1) (3 : Nat) (0 : Int), List.getD (DX.H x_1) (4 : Nat) (0 : Int), List.getD (DX.H x_1) (5 : Nat) (0 : Int),
  List.getD (DX.H x_1) (6 : Nat) (0 : Int), List.getD (DX.H x_1) (7 : Nat) (0 : Int)] (List.take (Int.toNat (64 : Int)) (List.drop (DX.n x_1) (DX.D x)))) (2 : Nat) (0 : Int) =
  List.getD (DX.H x') (2 : Nat) (0 : Int) ∧ List.getD (blkF [List.getD (DX.H x_1) (0 : Nat) (0 : Int), List.getD (DX.H x_1) (1 : Nat) (0 : Int), List.getD (DX.H x_1) (2 : Nat) (0 :
  Int), List.getD (DX.H x_1) (3 : Nat) (0 : Int), List.getD (DX.H x_1) (4 : Nat) (0 : Int), List.getD (DX.H x_1) (5 : Nat) (0 : Int), List.getD (DX.H x_1) (6 : Nat) (0 : Int),
  List.getD (DX.H x_1) (7 : Nat) (0 : Int)] (List.take (Int.toNat (64 : Int)) (List.drop (DX.n x_1) (DX.D x)))) (3 : Nat) (0 : Int) = List.getD (DX.H x') (3 : Nat) (0 : Int) ∧
  List.getD (blkF [List.getD (DX.H x_1) (0 : Nat) (0 : Int), List.getD (DX.H x_1) (1 : Nat) (0 : Int), List.getD (DX.H x_1) (2 : Nat) (0 : Int), List.getD (DX.H x_1) (3 : Nat) (0 :
  Int), List.getD (DX.H x_1) (4 : Nat) (0 : Int), List.getD (DX.H x_1) (5 : Nat) (0 : Int), List.getD (DX.H x_1) (6 : Nat) (0 : Int), List.getD (DX.H x_1) (7 : Nat) (0 : Int)]
  (List.take (Int.toNat (64 : Int)) (List.drop (DX.n x_1) (DX.D x)))) (4 : Nat) (0 : Int) = List.getD (DX.H x') (4 : Nat) (0 : Int) ∧ List.getD (blkF [List.getD (DX.H x_1) (0 : Nat)
  (0 : Int), List.getD (DX.H x_1) (1 : Nat) (0 : Int), List.getD (DX.H x_1) (2 : Nat) (0 : Int), List.getD (DX.H x_1) (3 : Nat) (0 : Int), List.getD (DX.H x_1) (4 : Nat) (0 : Int),
  List.getD (DX.H x_1) (5 : Nat) (0 : Int), List.getD (DX.H x_1) (6 : Nat) (0 : Int), List.getD (DX.H x_1) (7 : Nat) (0 : Int)] (List.take (Int.toNat (64 : Int)) (List.drop (DX.n
  x_1) (DX.D x)))) (5 : Nat) (0 : Int) = List.getD (DX.H x') (5 : Nat) (0 : Int) ∧ List.getD (blkF [List.getD (DX.H x_1) (0 : Nat) (0 : Int), List.getD (DX.H x_1) (1 : Nat) (0 :
  Int), List.getD (DX.H x_1) (2 : Nat) (0 : Int), List.getD (DX.H x_1) (3 : Nat) (0 : Int), List.getD (DX.H x_1) (4 : Nat) (0 : Int), List.getD (DX.H x_1) (5 : Nat) (0 : Int),
  List.getD (DX.H x_1) (6 : Nat) (0 : Int), List.getD (DX.H x_1) (7 : Nat) (0 : Int)] (List.take (Int.toNat (64 : Int)) (List.drop (DX.n x_1) (DX.D x)))) (6 : Nat) (0 : Int) =
  List.getD (DX.H x') (6 : Nat) (0 : Int) ∧ List.getD (blkF [List.getD (DX.H x_1) (0 : Nat) (0 : Int), List.getD (DX.H x_1) (1 : Nat) (0 : Int), List.getD (DX.H x_1) (2 : Nat) (0 :
  Int), List.getD (DX.H x_1) (3 : Nat) (0 : Int), List.getD (DX.H x_1) (4 : Nat) (0 : Int), List.getD (DX.H x_1) (5 : Nat) (0 : Int), List.getD (DX.H x_1) (6 : Nat) (0 : Int),
  List.getD (DX.H x_1) (7 : Nat) (0 : Int)] (List.take (Int.toNat (64 : Int)) (List.drop (DX.n x_1) (DX.D x)))) (7 : Nat) (0 : Int) = List.getD (DX.H x') (7 : Nat) (0 : Int) ∧ True)
  ∧ ((0 : Int) = (0 : Int) ∧ (0 : Int) = (0 : Int) ∧ (0 : Int) = (0 : Int) ∧ (0 : Int) = (0 : Int) ∧ (0 : Int) = (0 : Int) ∧ (0 : Int) = (0 : Int) ∧ (0 : Int) = (0 : Int) ∧ (0 : Int)
  = (0 : Int) ∧ (0 : Int) = (0 : Int) ∧ (0 : Int) = (0 : Int) ∧ (0 : Int) = (0 : Int) ∧ (0 : Int) = (0 : Int) ∧ (0 : Int) = (0 : Int) ∧ (0 : Int) = (0 : Int) ∧ (0 : Int) = (0 : Int)
  ∧ (0 : Int) = (0 : Int) ∧ (0 : Int) = (0 : Int) ∧ (0 : Int) = (0 : Int) ∧ (0 : Int) = (0 : Int) ∧ (0 : Int) = (0 : Int) ∧ (0 : Int) = (0 : Int) ∧ (0 : Int) = (0 : Int) ∧ (0 : Int)
  = (0 : Int) ∧ (0 : Int) = (0 : Int) ∧ (0 : Int) = (0 : Int) ∧ (0 : Int) = (0 : Int) ∧ (0 : Int) = (0 : Int) ∧ (0 : Int) = (0 : Int) ∧ (0 : Int) = (0 : Int) ∧ (0 : Int) = (0 : Int)
  ∧ (0 : Int) = (0 : Int) ∧ (0 : Int) = (0 : Int) ∧ True) ∧ True) ∧ (decide ((64 : Int) < (↑(DX.m x_1) : Int)) = false → (∃ (x' : DX), R true x' ∧ x'.2 + (1 : Nat) ≤ x_1.2 ∧ true =
  true ∧ ((0 : Nat) = (0 : Nat) ∧ False ∧ (0 : Nat) = (0 : Nat) ∧ True) ∧ (List.getD (blkF [List.getD (DX.H x_1) (0 : Nat) (0 : Int), List.getD (DX.H x_1) (1 : Nat) (0 : Int),
  List.getD (DX.H x_1) (2 : Nat) (0 : Int), List.getD (DX.H x_1) (3 : Nat) (0 : Int), List.getD (DX.H x_1) (4 : Nat) (0 : Int), List.getD (DX.H x_1) (5 : Nat) (0 : Int), List.getD
  (DX.H x_1) (6 : Nat) (0 : Int), List.getD (DX.H x_1) (7 : Nat) (0 : Int)] (List.take (Int.toNat (64 : Int)) (List.drop (DX.n x_1) (DX.D x)))) (0 : Nat) (0 : Int) = List.getD (DX.H
  x') (0 : Nat) (0 : Int) ∧ List.getD (blkF [List.getD (DX.H x_1) (0 : Nat) (0 : Int), List.getD (DX.H x_1) (1 : Nat) (0 : Int), List.getD (DX.H x_1) (2 : Nat) (0 : Int), List.getD
  (DX.H x_1) (3 : Nat) (0 : Int), List.getD (DX.H x_1) (4 : Nat) (0 : Int), List.getD (DX.H x_1) (5 : Nat) (0 : Int), List.getD (DX.H x_1) (6 : Nat) (0 : Int), List.getD (DX.H x_1)
  (7 : Nat) (0 : Int)] (List.take (Int.toNat (64 : Int)) (List.drop (DX.n x_1) (DX.D x)))) (1 : Nat) (0 : Int) = List.getD (DX.H x') (1 : Nat) (0 : Int) ∧ List.getD (blkF [List.getD
  (DX.H x_1) (0 : Nat) (0 : Int), List.getD (DX.H x_1) (1 : Nat) (0 : Int), List.getD (DX.H x_1) (2 : Nat) (0 : Int), List.getD (DX.H x_1) (3 : Nat) (0 : Int), List.getD (DX.H x_1)
  (4 : Nat) (0 : Int), List.getD (DX.H x_1) (5 : Nat) (0 : Int), List.getD (DX.H x_1) (6 : Nat) (0 : Int), List.getD (DX.H x_1) (7 : Nat) (0 : Int)] (List.take (Int.toNat (64 : Int))
  (List.drop (DX.n x_1) (DX.D x)))) (2 : Nat) (0 : Int) = List.getD (DX.H x') (2 : Nat) (0 : Int) ∧ List.getD (blkF [List.getD (DX.H x_1) (0 : Nat) (0 : Int), List.getD (DX.H x_1) (1
  : Nat) (0 : Int), List.getD (DX.H x_1) (2 : Nat) (0 : Int), List.getD (DX.H x_1) (3 : Nat) (0 : Int), List.getD (DX.H x_1) (4 : Nat) (0 : Int), List.getD (DX.H x_1) (5 : Nat) (0 :
  Int), List.getD (DX.H x_1) (6 : Nat) (0 : Int), List.getD (DX.H x_1) (7 : Nat) (0 : Int)] (List.take (Int.toNat (64 : Int)) (List.drop (DX.n x_1) (DX.D x)))) (3 : Nat) (0 : Int) =
  List.getD (DX.H x') (3 : Nat) (0 : Int) ∧ List.getD (blkF [List.getD (DX.H x_1) (0 : Nat) (0 : Int), List.getD (DX.H x_1) (1 : Nat) (0 : Int), List.getD (DX.H x_1) (2 : Nat) (0 :
  Int), List.getD (DX.H x_1) (3 : Nat) (0 : Int), List.getD (DX.H x_1) (4 : Nat) (0 : Int), List.getD (DX.H x_1) (5 : Nat) (0 : Int), List.getD (DX.H x_1) (6 : Nat) (0 : Int),
  List.getD (DX.H x_1) (7 : Nat) (0 : Int)] (List.take (Int.toNat (64 : Int)) (List.drop (DX.n x_1) (DX.D x)))) (4 : Nat) (0 : Int) = List.getD (DX.H x') (4 : Nat) (0 : Int) ∧
  List.getD (blkF [List.getD (DX.H x_1) (0 : Nat) (0 : Int), List.getD (DX.H x_1) (1 : Nat) (0 : Int), List.getD (DX.H x_1) (2 : Nat) (0 : Int), List.getD (DX.H x_1) (3 : Nat) (0 :
  Int), List.getD (DX.H x_1) (4 : Nat) (0 : Int), List.getD (DX.H x_1) (5 : Nat) (0 : Int), List.getD (DX.H x_1) (6 : Nat) (0 : Int), List.getD (DX.H x_1) (7 : Nat) (0 : Int)]
  (List.take (Int.toNat (64 : Int)) (List.drop (DX.n x_1) (DX.D x)))) (5 : Nat) (0 : Int) = List.getD (DX.H x') (5 : Nat) (0 : Int) ∧ List.getD (blkF [List.getD (DX.H x_1) (0 : Nat)
  (0 : Int), List.getD (DX.H x_1) (1 : Nat) (0 : Int), List.getD (DX.H x_1) (2 : Nat) (0 : Int), List.getD (DX.H x_1) (3 : Nat) (0 : Int), List.getD (DX.H x_1) (4 : Nat) (0 : Int),
  List.getD (DX.H x_1) (5 : Nat) (0 : Int), List.getD (DX.H x_1) (6 : Nat) (0 : Int), List.getD (DX.H x_1) (7 : Nat) (0 : Int)] (List.take (Int.toNat (64 : Int)) (List.drop (DX.n
  x_1) (DX.D x)))) (6 : Nat) (0 : Int) = List.getD (DX.H x') (6 : Nat) (0 : Int) ∧ List.getD (blkF [List.getD (DX.H x_1) (0 : Nat) (0 : Int), List.getD (DX.H x_1) (1 : Nat) (0 :
  Int), List.getD (DX.H x_1) (2 : Nat) (0 : Int), List.getD (DX.H x_1) (3 : Nat) (0 : Int), List.getD (DX.H x_1) (4 : Nat) (0 : Int), List.getD (DX.H x_1) (5 : Nat) (0 : Int),
  List.getD (DX.H x_1) (6 : Nat) (0 : Int), List.getD (DX.H x_1) (7 : Nat) (0 : Int)] (List.take (Int.toNat (64 : Int)) (List.drop (DX.n x_1) (DX.D x)))) (7 : Nat) (0 : Int) =
  List.getD (DX.H x') (7 : Nat) (0 : Int) ∧ True) ∧ (DX.D x = DX.D x ∧ mx2 (DX.fz x_1) (List.length (DX.D x)) = DX.fz x') ∧ ((0 : Int) = (0 : Int) ∧ (0 : Int) = (0 : Int) ∧ (0 : Int)
  = (0 : Int) ∧ (0 : Int) = (0 : Int) ∧ (0 : Int) = (0 : Int) ∧ (0 : Int) = (0 : Int) ∧ (0 : Int) = (0 : Int) ∧ (0 : Int) = (0 : Int) ∧ (0 : Int) = (0 : Int) ∧ (0 : Int) = (0 : Int)
  ∧ (0 : Int) = (0 : Int) ∧ (0 : Int) = (0 : Int) ∧ (0 : Int) = (0 : Int) ∧ (0 : Int) = (0 : Int) ∧ (0 : Int) = (0 : Int) ∧ (0 : Int) = (0 : Int) ∧ (0 : Int) = (0 : Int) ∧ (0 : Int)
  = (0 : Int) ∧ (0 : Int) = (0 : Int) ∧ (0 : Int) = (0 : Int) ∧ (0 : Int) = (0 : Int) ∧ (0 : Int) = (0 : Int) ∧ (0 : Int) = (0 : Int) ∧ (0 : Int) = (0 : Int) ∧ (0 : Int) = (0 : Int)
  ∧ (0 : Int) = (0 : Int) ∧ (0 : Int) = (0 : Int) ∧ (0 : Int) = (0 : Int) ∧ (0 : Int) = (0 : Int) ∧ (0 : Int) = (0 : Int) ∧ (0 : Int) = (0 : Int) ∧ (0 : Int) = (0 : Int) ∧ True) ∧
  True) ∨ ∃ (x' : DX), R false x' ∧ x'.2 + (1 : Nat) ≤ x_1.2 ∧ true = true ∧ ((0 : Nat) = (0 : Nat) ∧ (([] : List Int) = ([] : List Int) ∧ (false = true → false = true)) ∧ (0 : Nat)
  = (0 : Nat) ∧ True) ∧ (List.getD (blkF [List.getD (DX.H x_1) (0 : Nat) (0 : Int), List.getD (DX.H x_1) (1 : Nat) (0 : Int), List.getD (DX.H x_1) (2 : Nat) (0 : Int), List.getD
  (DX.H x_1) (3 : Nat) (0 : Int), List.getD (DX.H x_1) (4 : Nat) (0 : Int), List.getD (DX.H x_1) (5 : Nat) (0 : Int), List.getD (DX.H x_1) (6 : Nat) (0 : Int), List.getD (DX.H x_1)
  (7 : Nat) (0 : Int)] (List.take (Int.toNat (64 : Int)) (List.drop (DX.n x_1) (DX.D x)))) (0 : Nat) (0 : Int) = List.getD (DX.H x') (0 : Nat) (0 : Int) ∧ List.getD (blkF [List.getD
  (DX.H x_1) (0 : Nat) (0 : Int), List.getD (DX.H x_1) (1 : Nat) (0 : Int), List.getD (DX.H x_1) (2 : Nat) (0 : Int), List.getD (DX.H x_1) (3 : Nat) (0 : Int), List.getD (DX.H x_1)
  (4 : Nat) (0 : Int), List.getD (DX.H x_1) (5 : Nat) (0 : Int), List.getD (DX.H x_1) (6 : Nat) (0 : Int), List.getD (DX.H x_1) (7 : Nat) (0 : Int)] (List.take (Int.toNat (64 : Int))
  (List.drop (DX.n x_1) (DX.D x)))) (1 : Nat) (0 : Int) = List.getD (DX.H x') (1 : Nat) (0 : Int) ∧ List.getD (blkF [List.getD (DX.H x_1) (0 : Nat) (0 : Int), List.getD (DX.H x_1) (1
  : Nat) (0 : Int), List.getD (DX.H x_1) (2 : Nat) (0 : Int), List.getD (DX.H x_1) (3 : Nat) (0 : Int), List.getD (DX.H x_1) (4 : Nat) (0 : Int), List.getD (DX.H x_1) (5 : Nat) (0 :
  Int), List.getD (DX.H x_1) (6 : Nat) (0 : Int), List.getD (DX.H x_1) (7 : Nat) (0 : Int)] (List.take (Int.toNat (64 : Int)) (List.drop (DX.n x_1) (DX.D x)))) (2 : Nat) (0 : Int) =
  List.getD (DX.H x') (2 : Nat) (0 : Int) ∧ List.getD (blkF [List.getD (DX.H x_1) (0 : Nat) (0 : Int), List.getD (DX.H x_1) (1 : Nat) (0 : Int), List.getD (DX.H x_1) (2 : Nat) (0 :
  Int), List.getD (DX.H x_1) (3 : Nat) (0 : Int), List.getD (DX.H x_1) (4 : Nat) (0 : Int), List.getD (DX.H x_1) (5 : Nat) (0 : Int), List.getD (DX.H x_1) (6 : Nat) (0 : Int),
  List.getD (DX.H x_1) (7 : Nat) (0 : Int)] (List.take (Int.toNat (64 : Int)) (List.drop (DX.n x_1) (DX.D x)))) (3 : Nat) (0 : Int) = List.getD (DX.H x') (3 : Nat) (0 : Int) ∧
  List.getD (blkF [List.getD (DX.H x_1) (0 : Nat) (0 : Int), List.getD (DX.H x_1) (1 : Nat) (0 : Int), List.getD (DX.H x_1) (2 : Nat) (0 : Int), List.getD (DX.H x_1) (3 : Nat) (0 :
  Int), List.getD (DX.H x_1) (4 : Nat) (0 : Int), List.getD (DX.H x_1) (5 : Nat) (0 : Int), List.getD (DX.H x_1) (6 : Nat) (0 : Int), List.getD (DX.H x_1) (7 : Nat) (0 : Int)]
  (List.take (Int.toNat (64 : Int)) (List.drop (DX.n x_1) (DX.D x)))) (4 : Nat) (0 : Int) = List.getD (DX.H x') (4 : Nat) (0 : Int) ∧ List.getD (blkF [List.getD (DX.H x_1) (0 : Nat)
  (0 : Int), List.getD (DX.H x_1) (1 : Nat) (0 : Int), List.getD (DX.H x_1) (2 : Nat) (0 : Int), List.getD (DX.H x_1) (3 : Nat) (0 : Int), List.getD (DX.H x_1) (4 : Nat) (0 : Int),
  List.getD (DX.H x_1) (5 : Nat) (0 : Int), List.getD (DX.H x_1) (6 : Nat) (0 : Int), List.getD (DX.H x_1) (7 : Nat) (0 : Int)] (List.take (Int.toNat (64 : Int)) (List.drop (DX.n
  x_1) (DX.D x)))) (5 : Nat) (0 : Int) = List.getD (DX.H x') (5 : Nat) (0 : Int) ∧ List.getD (blkF [List.getD (DX.H x_1) (0 : Nat) (0 : Int), List.getD (DX.H x_1) (1 : Nat) (0 :
  Int), List.getD (DX.H x_1) (2 : Nat) (0 : Int), List.getD (DX.H x_1) (3 : Nat) (0 : Int), List.getD (DX.H x_1) (4 : Nat) (0 : Int), List.getD (DX.H x_1) (5 : Nat) (0 : Int),
  List.getD (DX.H x_1) (6 : Nat) (0 : Int), List.getD (DX.H x_1) (7 : Nat) (0 : Int)] (List.take (Int.toNat (64 : Int)) (List.drop (DX.n x_1) (DX.D x)))) (6 : Nat) (0 : Int) =
  List.getD (DX.H x') (6 : Nat) (0 : Int) ∧ List.getD (blkF [List.getD (DX.H x_1) (0 : Nat) (0 : Int), List.getD (DX.H x_1) (1 : Nat) (0 : Int), List.getD (DX.H x_1) (2 : Nat) (0 :
  Int), List.getD (DX.H x_1) (3 : Nat) (0 : Int), List.getD (DX.H x_1) (4 : Nat) (0 : Int), List.getD (DX.H x_1) (5 : Nat) (0 : Int), List.getD (DX.H x_1) (6 : Nat) (0 : Int),
  List.getD (DX.H x_1) (7 : Nat) (0 : Int)] (List.take (Int.toNat (64 : Int)) (List.drop (DX.n x_1) (DX.D x)))) (7 : Nat) (0 : Int) = List.getD (DX.H x') (7 : Nat) (0 : Int) ∧ True)
  ∧ ((0 : Int) = (0 : Int) ∧ (0 : Int) = (0 : Int) ∧ (0 : Int) = (0 : Int) ∧ (0 : Int) = (0 : Int) ∧ (0 : Int) = (0 : Int) ∧ (0 : Int) = (0 : Int) ∧ (0 : Int) = (0 : Int) ∧ (0 : Int)
  = (0 : Int) ∧ (0 : Int) = (0 : Int) ∧ (0 : Int) = (0 : Int) ∧ (0 : Int) = (0 : Int) ∧ (0 : Int) = (0 : Int) ∧ (0 : Int) = (0 : Int) ∧ (0 : Int) = (0 : Int) ∧ (0 : Int) = (0 : Int)
  ∧ (0 : Int) = (0 : Int) ∧ (0 : Int) = (0 : Int) ∧ (0 : Int) = (0 : Int) ∧ (0 : Int) = (0 : Int) ∧ (0 : Int) = (0 : Int) ∧ (0 : Int) = (0 : Int) ∧ (0 : Int) = (0 : Int) ∧ (0 : Int)
  = (0 : Int) ∧ (0 : Int) = (0 : Int) ∧ (0 : Int) = (0 : Int) ∧ (0 : Int) = (0 : Int) ∧ (0 : Int) = (0 : Int) ∧ (0 : Int) = (0 : Int) ∧ (0 : Int) = (0 : Int) ∧ (0 : Int) = (0 : Int)
  ∧ (0 : Int) = (0 : Int) ∧ (0 : Int) = (0 : Int) ∧ True) ∧ True)) ∧ (decide ((↑(DX.m x_1) : Int) > (0 : Int)) = false → wr IntKind.u8 (Int.fdiv (List.getD (DX.H x_1) (0 : Nat) (0 :
  Int)) ((2 : Int) ^ min (Int.toNat (24 : Int)) (IntKind.bits IntKind.u32))) = List.getD d (0 : Nat) (0 : Int) ∧ wr IntKind.u8 (Int.fdiv (List.getD (DX.H x_1) (0 : Nat) (0 : Int))
  ((2 : Int) ^ min (Int.toNat (16 : Int)) (IntKind.bits IntKind.u32))) = List.getD d (1 : Nat) (0 : Int) ∧ wr IntKind.u8 (Int.fdiv (List.getD (DX.H x_1) (0 : Nat) (0 : Int)) ((2 :
  Int) ^ min (Int.toNat (8 : Int)) (IntKind.bits IntKind.u32))) = List.getD d (2 : Nat) (0 : Int) ∧ wr IntKind.u8 (Int.fdiv (List.getD (DX.H x_1) (0 : Nat) (0 : Int)) ((2 : Int) ^
  min (Int.toNat (0 : Int)) (IntKind.bits IntKind.u32))) = List.getD d (3 : Nat) (0 : Int) ∧ wr IntKind.u8 (Int.fdiv (List.getD (DX.H x_1) (1 : Nat) (0 : Int)) ((2 : Int) ^ min
  (Int.toNat (24 : Int)) (IntKind.bits IntKind.u32))) = List.getD d (4 : Nat) (0 : Int) ∧ wr IntKind.u8 (Int.fdiv (List.getD (DX.H x_1) (1 : Nat) (0 : Int)) ((2 : Int) ^ min
  (Int.toNat (16 : Int)) (IntKind.bits IntKind.u32))) = List.getD d (5 : Nat) (0 : Int) ∧ wr IntKind.u8 (Int.fdiv (List.getD (DX.H x_1) (1 : Nat) (0 : Int)) ((2 : Int) ^ min
  (Int.toNat (8 : Int)) (IntKind.bits IntKind.u32))) = List.getD d (6 : Nat) (0 : Int) ∧ wr IntKind.u8 (Int.fdiv (List.getD (DX.H x_1) (1 : Nat) (0 : Int)) ((2 : Int) ^ min
  (Int.toNat (0 : Int)) (IntKind.bits IntKind.u32))) = List.getD d (7 : Nat) (0 : Int) ∧ wr IntKind.u8 (Int.fdiv (List.getD (DX.H x_1) (2 : Nat) (0 : Int)) ((2 : Int) ^ min
  (Int.toNat (24 : Int)) (IntKind.bits IntKind.u32))) = List.getD d (8 : Nat) (0 : Int) ∧ wr IntKind.u8 (Int.fdiv (List.getD (DX.H x_1) (2 : Nat) (0 : Int)) ((2 : Int) ^ min
  (Int.toNat (16 : Int)) (IntKind.bits IntKind.u32))) = List.getD d (9 : Nat) (0 : Int) ∧ wr IntKind.u8 (Int.fdiv (List.getD (DX.H x_1) (2 : Nat) (0 : Int)) ((2 : Int) ^ min
  (Int.toNat (8 : Int)) (IntKind.bits IntKind.u32))) = List.getD d (10 : Nat) (0 : Int) ∧ wr IntKind.u8 (Int.fdiv (List.getD (DX.H x_1) (2 : Nat) (0 : Int)) ((2 : Int) ^ min
  (Int.toNat (0 : Int)) (IntKind.bits IntKind.u32))) = List.getD d (11 : Nat) (0 : Int) ∧ wr IntKind.u8 (Int.fdiv (List.getD (DX.H x_1) (3 : Nat) (0 : Int)) ((2 : Int) ^ min
  (Int.toNat (24 : Int)) (IntKind.bits IntKind.u32))) = List.getD d (12 : Nat) (0 : Int) ∧ wr IntKind.u8 (Int.fdiv (List.getD (DX.H x_1) (3 : Nat) (0 : Int)) ((2 : Int) ^ min
  (Int.toNat (16 : Int)) (IntKind.bits IntKind.u32))) = List.getD d (13 : Nat) (0 : Int) ∧ wr IntKind.u8 (Int.fdiv (List.getD (DX.H x_1) (3 : Nat) (0 : Int)) ((2 : Int) ^ min
  (Int.toNat (8 : Int)) (IntKind.bits IntKind.u32))) = List.getD d (14 : Nat) (0 : Int) ∧ wr IntKind.u8 (Int.fdiv (List.getD (DX.H x_1) (3 : Nat) (0 : Int)) ((2 : Int) ^ min
  (Int.toNat (0 : Int)) (IntKind.bits IntKind.u32))) = List.getD d (15 : Nat) (0 : Int) ∧ wr IntKind.u8 (Int.fdiv (List.getD (DX.H x_1) (4 : Nat) (0 : Int)) ((2 : Int) ^ min
  (Int.toNat (24 : Int)) (IntKind.bits IntKind.u32))) = List.getD d (16 : Nat) (0 : Int) ∧ wr IntKind.u8 (Int.fdiv (List.getD (DX.H x_1) (4 : Nat) (0 : Int)) ((2 : Int) ^ min
  (Int.toNat (16 : Int)) (IntKind.bits IntKind.u32))) = List.getD d (17 : Nat) (0 : Int) ∧ wr IntKind.u8 (Int.fdiv (List.getD (DX.H x_1) (4 : Nat) (0 : Int)) ((2 : Int) ^ min
  (Int.toNat (8 : Int)) (IntKind.bits IntKind.u32))) = List.getD d (18 : Nat) (0 : Int) ∧ wr IntKind.u8 (Int.fdiv (List.getD (DX.H x_1) (4 : Nat) (0 : Int)) ((2 : Int) ^ min
  (Int.toNat (0 : Int)) (IntKind.bits IntKind.u32))) = List.getD d (19 : Nat) (0 : Int) ∧ wr IntKind.u8 (Int.fdiv (List.getD (DX.H x_1) (5 : Nat) (0 : Int)) ((2 : Int) ^ min
  (Int.toNat (24 : Int)) (IntKind.bits IntKind.u32))) = List.getD d (20 : Nat) (0 : Int) ∧ wr IntKind.u8 (Int.fdiv (List.getD (DX.H x_1) (5 : Nat) (0 : Int)) ((2 : Int) ^ min
  (Int.toNat (16 : Int)) (IntKind.bits IntKind.u32))) = List.getD d (21 : Nat) (0 : Int) ∧ wr IntKind.u8 (Int.fdiv (List.getD (DX.H x_1) (5 : Nat) (0 : Int)) ((2 : Int) ^ min
  (Int.toNat (8 : Int)) (IntKind.bits IntKind.u32))) = List.getD d (22 : Nat) (0 : Int) ∧ wr IntKind.u8 (Int.fdiv (List.getD (DX.H x_1) (5 : Nat) (0 : Int)) ((2 : Int) ^ min
  (Int.toNat (0 : Int)) (IntKind.bits IntKind.u32))) = List.getD d (23 : Nat) (0 : Int) ∧ wr IntKind.u8 (Int.fdiv (List.getD (DX.H x_1) (6 : Nat) (0 : Int)) ((2 : Int) ^ min
  (Int.toNat (24 : Int)) (IntKind.bits IntKind.u32))) = List.getD d (24 : Nat) (0 : Int) ∧ wr IntKind.u8 (Int.fdiv (List.getD (DX.H x_1) (6 : Nat) (0 : Int)) ((2 : Int) ^ min
  (Int.toNat (16 : Int)) (IntKind.bits IntKind.u32))) = List.getD d (25 : Nat) (0 : Int) ∧ wr IntKind.u8 (Int.fdiv (List.getD (DX.H x_1) (6 : Nat) (0 : Int)) ((2 : Int) ^ min
  (Int.toNat (8 : Int)) (IntKind.bits IntKind.u32))) = List.getD d (26 : Nat) (0 : Int) ∧ wr IntKind.u8 (Int.fdiv (List.getD (DX.H x_1) (6 : Nat) (0 : Int)) ((2 : Int) ^ min
  (Int.toNat (0 : Int)) (IntKind.bits IntKind.u32))) = List.getD d (27 : Nat) (0 : Int) ∧ wr IntKind.u8 (Int.fdiv (List.getD (DX.H x_1) (7 : Nat) (0 : Int)) ((2 : Int) ^ min
  (Int.toNat (24 : Int)) (IntKind.bits IntKind.u32))) = List.getD d (28 : Nat) (0 : Int) ∧ wr IntKind.u8 (Int.fdiv (List.getD (DX.H x_1) (7 : Nat) (0 : Int)) ((2 : Int) ^ min
  (Int.toNat (16 : Int)) (IntKind.bits IntKind.u32))) = List.getD d (29 : Nat) (0 : Int) ∧ wr IntKind.u8 (Int.fdiv (List.getD (DX.H x_1) (7 : Nat) (0 : Int)) ((2 : Int) ^ min
  (Int.toNat (8 : Int)) (IntKind.bits IntKind.u32))) = List.getD d (30 : Nat) (0 : Int) ∧ wr IntKind.u8 (Int.fdiv (List.getD (DX.H x_1) (7 : Nat) (0 : Int)) ((2 : Int) ^ min
  (Int.toNat (0 : Int)) (IntKind.bits IntKind.u32))) = List.getD d (31 : Nat) (0 : Int) ∧ True)) ∧ ∀ (x : DX), R false x → (decide ((↑(0 : Nat) : Int) > (0 : Int)) = true → ((0 :
  Int) ≤ (64 : Int) ∧ (64 : Int) ≤ (↑(0 : Nat) : Int)) ∧ ((8 : Nat) = (8 : Nat) ∧ List.length (List.take (Int.toNat (64 : Int)) ([] : List Int)) = (64 : Nat)) ∧ ((0 : Int) ≤ (64 :
  Int) ∧ (64 : Int) ≤ (↑(0 : Nat) : Int)) ∧ ((∃ (x' : DX), R true x' ∧ x'.2 + (1 : Nat) ≤ x.2 ∧ true = true ∧ ((0 : Nat) = (0 : Nat) ∧ False ∧ (0 : Nat) = (0 : Nat) ∧ True) ∧
  (List.getD (blkF [List.getD (DX.H x) (0 : Nat) (0 : Int), List.getD (DX.H x) (1 : Nat) (0 : Int), List.getD (DX.H x) (2 : Nat) (0 : Int), List.getD (DX.H x) (3 : Nat) (0 : Int),
  List.getD (DX.H x) (4 : Nat) (0 : Int), List.getD (DX.H x) (5 : Nat) (0 : Int), List.getD (DX.H x) (6 : Nat) (0 : Int), List.getD (DX.H x) (7 : Nat) (0 : Int)] (List.take
  (Int.toNat (64 : Int)) ([] : List Int))) (0 : Nat) (0 : Int) = List.getD (DX.H x') (0 : Nat) (0 : Int) ∧ List.getD (blkF [List.getD (DX.H x) (0 : Nat) (0 : Int), List.getD (DX.H x)
  (1 : Nat) (0 : Int), List.getD (DX.H x) (2 : Nat) (0 : Int), List.getD (DX.H x) (3 : Nat) (0 : Int), List.getD (DX.H x) (4 : Nat) (0 : Int), List.getD (DX.H x) (5 : Nat) (0 : Int),
  List.getD (DX.H x) (6 : Nat) (0 : Int), List.getD (DX.H x) (7 : Nat) (0 : Int)] (List.take (Int.toNat (64 : Int)) ([] : List Int))) (1 : Nat) (0 : Int) = List.getD (DX.H x') (1 :
  Nat) (0 : Int) ∧ List.getD (blkF [List.getD (DX.H x) (0 : Nat) (0 : Int), List.getD (DX.H x) (1 : Nat) (0 : Int), List.getD (DX.H x) (2 : Nat) (0 : Int), List.getD (DX.H x) (3 :
  Nat) (0 : Int), List.getD (DX.H x) (4 : Nat) (0 : Int), List.getD (DX.H x) (5 : Nat) (0 : Int), List.getD (DX.H x) (6 : Nat) (0 : Int), List.getD (DX.H x) (7 : Nat) (0 : Int)]
  (List.take (Int.toNat (64 : Int)) ([] : List Int))) (2 : Nat) (0 : Int) = List.getD (DX.H x') (2 : Nat) (0 : Int) ∧ List.getD (blkF [List.getD (DX.H x) (0 : Nat) (0 : Int),
  List.getD (DX.H x) (1 : Nat) (0 : Int), List.getD (DX.H x) (2 : Nat) (0 : Int), List.getD (DX.H x) (3 : Nat) (0 : Int), List.getD (DX.H x) (4 : Nat) (0 : Int), List.getD (DX.H x)
  (5 : Nat) (0 : Int), List.getD (DX.H x) (6 : Nat) (0 : Int), List.getD (DX.H x) (7 : Nat) (0 : Int)] (List.take (Int.toNat (64 : Int)) ([] : List Int))) (3 : Nat) (0 : Int) =
  List.getD (DX.H x') (3 : Nat) (0 : Int) ∧ List.getD (blkF [List.getD (DX.H x) (0 : Nat) (0 : Int), List.getD (DX.H x) (1 : Nat) (0 : Int), List.getD (DX.H x) (2 : Nat) (0 : Int),
  List.getD (DX.H x) (3 : Nat) (0 : Int), List.getD (DX.H x) (4 : Nat) (0 : Int), List.getD (DX.H x) (5 : Nat) (0 : Int), List.getD (DX.H x) (6 : Nat) (0 : Int), List.getD (DX.H x)
  (7 : Nat) (0 : Int)] (List.take (Int.toNat (64 : Int)) ([] : List Int))) (4 : Nat) (0 : Int) = List.getD (DX.H x') (4 : Nat) (0 : Int) ∧ List.getD (blkF [List.getD (DX.H x) (0 :
  Nat) (0 : Int), List.getD (DX.H x) (1 : Nat) (0 : Int), List.getD (DX.H x) (2 : Nat) (0 : Int), List.getD (DX.H x) (3 : Nat) (0 : Int), List.getD (DX.H x) (4 : Nat) (0 : Int),
  List.getD (DX.H x) (5 : Nat) (0 : Int), List.getD (DX.H x) (6 : Nat) (0 : Int), List.getD (DX.H x) (7 : Nat) (0 : Int)] (List.take (Int.toNat (64 : Int)) ([] : List Int))) (5 :
  Nat) (0 : Int) = List.getD (DX.H x') (5 : Nat) (0 : Int) ∧ List.getD (blkF [List.getD (DX.H x) (0 : Nat) (0 : Int), List.getD (DX.H x) (1 : Nat) (0 : Int), List.getD (DX.H x) (2 :
  Nat) (0 : Int), List.getD (DX.H x) (3 : Nat) (0 : Int), List.getD (DX.H x) (4 : Nat) (0 : Int), List.getD (DX.H x) (5 : Nat) (0 : Int), List.getD (DX.H x) (6 : Nat) (0 : Int),
  List.getD (DX.H x) (7 : Nat) (0 : Int)] (List.take (Int.toNat (64 : Int)) ([] : List Int))) (6 : Nat) (0 : Int) = List.getD (DX.H x') (6 : Nat) (0 : Int) ∧ List.getD (blkF
  [List.getD (DX.H x) (0 : Nat) (0 : Int), List.getD (DX.H x) (1 : Nat) (0 : Int), List.getD (DX.H x) (2 : Nat) (0 : Int), List.getD (DX.H x) (3 : Nat) (0 : Int), List.getD (DX.H x)
  (4 : Nat) (0 : Int), List.getD (DX.H x) (5 : Nat) (0 : Int), List.getD (DX.H x) (6 : Nat) (0 : Int), List.getD (DX.H x) (7 : Nat) (0 : Int)] (List.take (Int.toNat (64 : Int)) ([] :
  List Int))) (7 : Nat) (0 : Int) = List.getD (DX.H x') (7 : Nat) (0 : Int) ∧ True) ∧ False ∧ ((0 : Int) = (0 : Int) ∧ (0 : Int) = (0 : Int) ∧ (0 : Int) = (0 : Int) ∧ (0 : Int) = (0
  : Int) ∧ (0 : Int) = (0 : Int) ∧ (0 : Int) = (0 : Int) ∧ (0 : Int) = (0 : Int) ∧ (0 : Int) = (0 : Int) ∧ (0 : Int) = (0 : Int) ∧ (0 : Int) = (0 : Int) ∧ (0 : Int) = (0 : Int) ∧ (0
  : Int) = (0 : Int) ∧ (0 : Int) = (0 : Int) ∧ (0 : Int) = (0 : Int) ∧ (0 : Int) = (0 : Int) ∧ (0 : Int) = (0 : Int) ∧ (0 : Int) = (0 : Int) ∧ (0 : Int) = (0 : Int) ∧ (0 : Int) = (0
  : Int) ∧ (0 : Int) = (0 : Int) ∧ (0 : Int) = (0 : Int) ∧ (0 : Int) = (0 : Int) ∧ (0 : Int) = (0 : Int) ∧ (0 : Int) = (0 : Int) ∧ (0 : Int) = (0 : Int) ∧ (0 : Int) = (0 : Int) ∧ (0
  : Int) = (0 : Int) ∧ (0 : Int) = (0 : Int) ∧ (0 : Int) = (0 : Int) ∧ (0 : Int) = (0 : Int) ∧ (0 : Int) = (0 : Int) ∧ (0 : Int) = (0 : Int) ∧ True) ∧ True) ∨ ∃ (x' : DX), R false x'
  ∧ x'.2 + (1 : Nat) ≤ x.2 ∧ true = true ∧ ((0 : Nat) = (0 : Nat) ∧ (List.drop (Int.toNat (64 : Int)) ([] : List Int) = ([] : List Int) ∧ (false = true → false = true)) ∧ (0 : Nat) =
  (0 : Nat) ∧ True) ∧ (List.getD (blkF [List.getD (DX.H x) (0 : Nat) (0 : Int), List.getD (DX.H x) (1 : Nat) (0 : Int), List.getD (DX.H x) (2 : Nat) (0 : Int), List.getD (DX.H x) (3
  : Nat) (0 : Int), List.getD (DX.H x) (4 : Nat) (0 : Int), List.getD (DX.H x) (5 : Nat) (0 : Int), List.getD (DX.H x) (6 : Nat) (0 : Int), List.getD (DX.H x) (7 : Nat) (0 : Int)]
  (List.take (Int.toNat (64 : Int)) ([] : List Int))) (0 : Nat) (0 : Int) = List.getD (DX.H x') (0 : Nat) (0 : Int) ∧ List.getD (blkF [List.getD (DX.H x) (0 : Nat) (0 : Int),
  List.getD (DX.H x) (1 : Nat) (0 : Int), List.getD (DX.H x) (2 : Nat) (0 : Int), List.getD (DX.H x) (3 : Nat) (0 : Int), List.getD (DX.H x) (4 : Nat) (0 : Int), List.getD (DX.H x)
  (5 : Nat) (0 : Int), List.getD (DX.H x) (6 : Nat) (0 : Int), List.getD (DX.H x) (7 : Nat) (0 : Int)] (List.take (Int.toNat (64 : Int)) ([] : List Int))) (1 : Nat) (0 : Int) =
  List.getD (DX.H x') (1 : Nat) (0 : Int) ∧ List.getD (blkF [List.getD (DX.H x) (0 : Nat) (0 : Int), List.getD (DX.H x) (1 : Nat) (0 : Int), List.getD (DX.H x) (2 : Nat) (0 : Int),
  List.getD (DX.H x) (3 : Nat) (0 : Int), List.getD (DX.H x) (4 : Nat) (0 : Int), List.getD (DX.H x) (5 : Nat) (0 : Int), List.getD (DX.H x) (6 : Nat) (0 : Int), List.getD (DX.H x)
  (7 : Nat) (0 : Int)] (List.take (Int.toNat (64 : Int)) ([] : List Int))) (2 : Nat) (0 : Int) = List.getD (DX.H x') (2 : Nat) (0 : Int) ∧ List.getD (blkF [List.getD (DX.H x) (0 :
  Nat) (0 : Int), List.getD (DX.H x) (1 : Nat) (0 : Int), List.getD (DX.H x) (2 : Nat) (0 : Int), List.getD (DX.H x) (3 : Nat) (0 : Int), List.getD (DX.H x) (4 : Nat) (0 : Int),
  List.getD (DX.H x) (5 : Nat) (0 : Int), List.getD (DX.H x) (6 : Nat) (0 : Int), List.getD (DX.H x) (7 : Nat) (0 : Int)] (List.take (Int.toNat (64 : Int)) ([] : List Int))) (3 :
  Nat) (0 : Int) = List.getD (DX.H x') (3 : Nat) (0 : Int) ∧ List.getD (blkF [List.getD (DX.H x) (0 : Nat) (0 : Int), List.getD (DX.H x) (1 : Nat) (0 : Int), List.getD (DX.H x) (2 :
  Nat) (0 : Int), List.getD (DX.H x) (3 : Nat) (0 : Int), List.getD (DX.H x) (4 : Nat) (0 : Int), List.getD (DX.H x) (5 : Nat) (0 : Int), List.getD (DX.H x) (6 : Nat) (0 : Int),
  List.getD (DX.H x) (7 : Nat) (0 : Int)] (List.take (Int.toNat (64 : Int)) ([] : List Int))) (4 : Nat) (0 : Int) = List.getD (DX.H x') (4 : Nat) (0 : Int) ∧ List.getD (blkF
  [List.getD (DX.H x) (0 : Nat) (0 : Int), List.getD (DX.H x) (1 : Nat) (0 : Int), List.getD (DX.H x) (2 : Nat) (0 : Int), List.getD (DX.H x) (3 : Nat) (0 : Int), List.getD (DX.H x)
  (4 : Nat) (0 : Int), List.getD (DX.H x) (5 : Nat) (0 : Int), List.getD (DX.H x) (6 : Nat) (0 : Int), List.getD (DX.H x) (7 : Nat) (0 : Int)] (List.take (Int.toNat (64 : Int)) ([] :
  List Int))) (5 : Nat) (0 : Int) = List.getD (DX.H x') (5 : Nat) (0 : Int) ∧ List.getD (blkF [List.getD (DX.H x) (0 : Nat) (0 : Int), List.getD (DX.H x) (1 : Nat) (0 : Int),
  List.getD (DX.H x) (2 : Nat) (0 : Int), List.getD (DX.H x) (3 : Nat) (0 : Int), List.getD (DX.H x) (4 : Nat) (0 : Int), List.getD (DX.H x) (5 : Nat) (0 : Int), List.getD (DX.H x)
  (6 : Nat) (0 : Int), List.getD (DX.H x) (7 : Nat) (0 : Int)] (List.take (Int.toNat (64 : Int)) ([] : List Int))) (6 : Nat) (0 : Int) = List.getD (DX.H x') (6 : Nat) (0 : Int) ∧
  List.getD (blkF [List.getD (DX.H x) (0 : Nat) (0 : Int), List.getD (DX.H x) (1 : Nat) (0 : Int), List.getD (DX.H x) (2 : Nat) (0 : Int), List.getD (DX.H x) (3 : Nat) (0 : Int),
  List.getD (DX.H x) (4 : Nat) (0 : Int), List.getD (DX.H x) (5 : Nat) (0 : Int), List.getD (DX.H x) (6 : Nat) (0 : Int), List.getD (DX.H x) (7 : Nat) (0 : Int)] (List.take
  (Int.toNat (64 : Int)) ([] : List Int))) (7 : Nat) (0 : Int) = List.getD (DX.H x') (7 : Nat) (0 : Int) ∧ True) ∧ ((0 : Int) = (0 : Int) ∧ (0 : Int) = (0 : Int) ∧ (0 : Int) = (0 :
  Int) ∧ (0 : Int) = (0 : Int) ∧ (0 : Int) = (0 : Int) ∧ (0 : Int) = (0 : Int) ∧ (0 : Int) = (0 : Int) ∧ (0 : Int) = (0 : Int) ∧ (0 : Int) = (0 : Int) ∧ (0 : Int) = (0 : Int) ∧ (0 :
  Int) = (0 : Int) ∧ (0 : Int) = (0 : Int) ∧ (0 : Int) = (0 : Int) ∧ (0 : Int) = (0 : Int) ∧ (0 : Int) = (0 : Int) ∧ (0 : Int) = (0 : Int) ∧ (0 : Int) = (0 : Int) ∧ (0 : Int) = (0 :
  Int) ∧ (0 : Int) = (0 : Int) ∧ (0 : Int) = (0 : Int) ∧ (0 : Int) = (0 : Int) ∧ (0 : Int) = (0 : Int) ∧ (0 : Int) = (0 : Int) ∧ (0 : Int) = (0 : Int) ∧ (0 : Int) = (0 : Int) ∧ (0 :
  Int) = (0 : Int) ∧ (0 : Int) = (0 : Int) ∧ (0 : Int) = (0 : Int) ∧ (0 : Int) = (0 : Int) ∧ (0 : Int) = (0 : Int) ∧ (0 : Int) = (0 : Int) ∧ (0 : Int) = (0 : Int) ∧ True) ∧ True)) ∧
  (decide ((↑(0 : Nat) : Int) > (0 : Int)) = false → wr IntKind.u8 (Int.fdiv (List.getD (DX.H x) (0 : Nat) (0 : Int)) ((2 : Int) ^ min (Int.toNat (24 : Int)) (IntKind.bits
  IntKind.u32))) = List.getD d (0 : Nat) (0 : Int) ∧ wr IntKind.u8 (Int.fdiv (List.getD (DX.H x) (0 : Nat) (0 : Int)) ((2 : Int) ^ min (Int.toNat (16 : Int)) (IntKind.bits
  IntKind.u32))) = List.getD d (1 : Nat) (0 : Int) ∧ wr IntKind.u8 (Int.fdiv (List.getD (DX.H x) (0 : Nat) (0 : Int)) ((2 : Int) ^ min (Int.toNat (8 : Int)) (IntKind.bits
  IntKind.u32))) = List.getD d (2 : Nat) (0 : Int) ∧ wr IntKind.u8 (Int.fdiv (List.getD (DX.H x) (0 : Nat) (0 : Int)) ((2 : Int) ^ min (Int.toNat (0 : Int)) (IntKind.bits
  IntKind.u32))) = List.getD d (3 : Nat) (0 : Int) ∧ wr IntKind.u8 (Int.fdiv (List.getD (DX.H x) (1 : Nat) (0 : Int)) ((2 : Int) ^ min (Int.toNat (24 : Int)) (IntKind.bits
  IntKind.u32))) = List.getD d (4 : Nat) (0 : Int) ∧ wr IntKind.u8 (Int.fdiv (List.getD (DX.H x) (1 : Nat) (0 : Int)) ((2 : Int) ^ min (Int.toNat (16 : Int)) (IntKind.bits
  IntKind.u32))) = List.getD d (5 : Nat) (0 : Int) ∧ wr IntKind.u8 (Int.fdiv (List.getD (DX.H x) (1 : Nat) (0 : Int)) ((2 : Int) ^ min (Int.toNat (8 : Int)) (IntKind.bits
  IntKind.u32))) = List.getD d (6 : Nat) (0 : Int) ∧ wr IntKind.u8 (Int.fdiv (List.getD (DX.H x) (1 : Nat) (0 : Int)) ((2 : Int) ^ min (Int.toNat (0 : Int)) (IntKind.bits
  IntKind.u32))) = List.getD d (7 : Nat) (0 : Int) ∧ wr IntKind.u8 (Int.fdiv (List.getD (DX.H x) (2 : Nat) (0 : Int)) ((2 : Int) ^ min (Int.toNat (24 : Int)) (IntKind.bits
  IntKind.u32))) = List.getD d (8 : Nat) (0 : Int) ∧ wr IntKind.u8 (Int.fdiv (List.getD (DX.H x) (2 : Nat) (0 : Int)) ((2 : Int) ^ min (Int.toNat (16 : Int)) (IntKind.bits
  IntKind.u32))) = List.getD d (9 : Nat) (0 : Int) ∧ wr IntKind.u8 (Int.fdiv (List.getD (DX.H x) (2 : Nat) (0 : Int)) ((2 : Int) ^ min (Int.toNat (8 : Int)) (IntKind.bits
  IntKind.u32))) = List.getD d (10 : Nat) (0 : Int) ∧ wr IntKind.u8 (Int.fdiv (List.getD (DX.H x) (2 : Nat) (0 : Int)) ((2 : Int) ^ min (Int.toNat (0 : Int)) (IntKind.bits
  IntKind.u32))) = List.getD d (11 : Nat) (0 : Int) ∧ wr IntKind.u8 (Int.fdiv (List.getD (DX.H x) (3 : Nat) (0 : Int)) ((2 : Int) ^ min (Int.toNat (24 : Int)) (IntKind.bits
  IntKind.u32))) = List.getD d (12 : Nat) (0 : Int) ∧ wr IntKind.u8 (Int.fdiv (List.getD (DX.H x) (3 : Nat) (0 : Int)) ((2 : Int) ^ min (Int.toNat (16 : Int)) (IntKind.bits
  IntKind.u32))) = List.getD d (13 : Nat) (0 : Int) ∧ wr IntKind.u8 (Int.fdiv (List.getD (DX.H x) (3 : Nat) (0 : Int)) ((2 : Int) ^ min (Int.toNat (8 : Int)) (IntKind.bits
  IntKind.u32))) = List.getD d (14 : Nat) (0 : Int) ∧ wr IntKind.u8 (Int.fdiv (List.getD (DX.H x) (3 : Nat) (0 : Int)) ((2 : Int) ^ min (Int.toNat (0 : Int)) (IntKind.bits
  IntKind.u32))) = List.getD d (15 : Nat) (0 : Int) ∧ wr IntKind.u8 (Int.fdiv (List.getD (DX.H x) (4 : Nat) (0 : Int)) ((2 : Int) ^ min (Int.toNat (24 : Int)) (IntKind.bits
  IntKind.u32))) = List.getD d (16 : Nat) (0 : Int) ∧ wr IntKind.u8 (Int.fdiv (List.getD (DX.H x) (4 : Nat) (0 : Int)) ((2 : Int) ^ min (Int.toNat (16 : Int)) (IntKind.bits
  IntKind.u32))) = List.getD d (17 : Nat) (0 : Int) ∧ wr IntKind.u8 (Int.fdiv (List.getD (DX.H x) (4 : Nat) (0 : Int)) ((2 : Int) ^ min (Int.toNat (8 : Int)) (IntKind.bits
  IntKind.u32))) = List.getD d (18 : Nat) (0 : Int) ∧ wr IntKind.u8 (Int.fdiv (List.getD (DX.H x) (4 : Nat) (0 : Int)) ((2 : Int) ^ min (Int.toNat (0 : Int)) (IntKind.bits
  IntKind.u32))) = List.getD d (19 : Nat) (0 : Int) ∧ wr IntKind.u8 (Int.fdiv (List.getD (DX.H x) (5 : Nat) (0 : Int)) ((2 : Int) ^ min (Int.toNat (24 : Int)) (IntKind.bits
  IntKind.u32))) = List.getD d (20 : Nat) (0 : Int) ∧ wr IntKind.u8 (Int.fdiv (List.getD (DX.H x) (5 : Nat) (0 : Int)) ((2 : Int) ^ min (Int.toNat (16 : Int)) (IntKind.bits
  IntKind.u32))) = List.getD d (21 : Nat) (0 : Int) ∧ wr IntKind.u8 (Int.fdiv (List.getD (DX.H x) (5 : Nat) (0 : Int)) ((2 : Int) ^ min (Int.toNat (8 : Int)) (IntKind.bits
  IntKind.u32))) = List.getD d (22 : Nat) (0 : Int) ∧ wr IntKind.u8 (Int.fdiv (List.getD (DX.H x) (5 : Nat) (0 : Int)) ((2 : Int) ^ min (Int.toNat (0 : Int)) (IntKind.bits
  IntKind.u32))) = List.getD d (23 : Nat) (0 : Int) ∧ wr IntKind.u8 (Int.fdiv (List.getD (DX.H x) (6 : Nat) (0 : Int)) ((2 : Int) ^ min (Int.toNat (24 : Int)) (IntKind.bits
  IntKind.u32))) = List.getD d (24 : Nat) (0 : Int) ∧ wr IntKind.u8 (Int.fdiv (List.getD (DX.H x) (6 : Nat) (0 : Int)) ((2 : Int) ^ min (Int.toNat (16 : Int)) (IntKind.bits
  IntKind.u32))) = List.getD d (25 : Nat) (0 : Int) ∧ wr IntKind.u8 (Int.fdiv (List.getD (DX.H x) (6 : Nat) (0 : Int)) ((2 : Int) ^ min (Int.toNat (8 : Int)) (IntKind.bits
  IntKind.u32))) = List.getD d (26 : Nat) (0 : Int) ∧ wr IntKind.u8 (Int.fdiv (List.getD (DX.H x) (6 : Nat) (0 : Int)) ((2 : Int) ^ min (Int.toNat (0 : Int)) (IntKind.bits
  IntKind.u32))) = List.getD d (27 : Nat) (0 : Int) ∧ wr IntKind.u8 (Int.fdiv (List.getD (DX.H x) (7 : Nat) (0 : Int)) ((2 : Int) ^ min (Int.toNat (24 : Int)) (IntKind.bits
  IntKind.u32))) = List.getD d (28 : Nat) (0 : Int) ∧ wr IntKind.u8 (Int.fdiv (List.getD (DX.H x) (7 : Nat) (0 : Int)) ((2 : Int) ^ min (Int.toNat (16 : Int)) (IntKind.bits
  IntKind.u32))) = List.getD d (29 : Nat) (0 : Int) ∧ wr IntKind.u8 (Int.fdiv (List.getD (DX.H x) (7 : Nat) (0 : Int)) ((2 : Int) ^ min (Int.toNat (8 : Int)) (IntKind.bits
  IntKind.u32))) = List.getD d (30 : Nat) (0 : Int) ∧ wr IntKind.u8 (Int.fdiv (List.getD (DX.H x) (7 : Nat) (0 : Int)) ((2 : Int) ^ min (Int.toNat (0 : Int)) (IntKind.bits
  IntKind.u32))) = List.getD d (31 : Nat) (0 : Int) ∧ True))))) ∧ ∀ (x : DX), R false x → (decide ((↑(DX.k x) : Int) < (↑(List.length ps) : Int)) = true → (0 : Int) ≤ (↑(DX.k x) :
  Int) ∧ (↑(DX.k x) : Int) + (1 : Int) ≤ (↑(List.length ps) : Int) ∧ ∀ (x_1 : List Int), ps[Int.toNat (↑(DX.k x) : Int)]? = some x_1 → (x_1 = ([] : List Int) → (∃ (x' : DX), R true
  x' ∧ x'.2 + (1 : Nat) ≤ x.2 ∧ true = true ∧ ((0 : Nat) = (0 : Nat) ∧ False ∧ (ps = ps ∧ (false = true → false = true)) ∧ (↑(List.length ps) : Int) = (↑(List.length ps) : Int) ∧ wr
  IntKind.i64 ((↑(DX.k x) : Int) + (1 : Int)) = (↑(DX.k x') : Int) ∧ True) ∧ ((0 : Int) = (0 : Int) ∧ (0 : Int) = (0 : Int) ∧ (0 : Int) = (0 : Int) ∧ (0 : Int) = (0 : Int) ∧ (0 :
  Int) = (0 : Int) ∧ (0 : Int) = (0 : Int) ∧ (0 : Int) = (0 : Int) ∧ (0 : Int) = (0 : Int) ∧ (0 : Int) = (0 : Int) ∧ (0 : Int) = (0 : Int) ∧ (0 : Int) = (0 : Int) ∧ (0 : Int) = (0 :
  Int) ∧ (0 : Int) = (0 : Int) ∧ (0 : Int) = (0 : Int) ∧ (0 : Int) = (0 : Int) ∧ (0 : Int) = (0 : Int) ∧ (0 : Int) = (0 : Int) ∧ (0 : Int) = (0 : Int) ∧ (0 : Int) = (0 : Int) ∧ (0 :
  Int) = (0 : Int) ∧ (0 : Int) = (0 : Int) ∧ (0 : Int) = (0 : Int) ∧ (0 : Int) = (0 : Int) ∧ (0 : Int) = (0 : Int) ∧ (0 : Int) = (0 : Int) ∧ (0 : Int) = (0 : Int) ∧ (0 : Int) = (0 :
  Int) ∧ (0 : Int) = (0 : Int) ∧ (0 : Int) = (0 : Int) ∧ (0 : Int) = (0 : Int) ∧ (0 : Int) = (0 : Int) ∧ (0 : Int) = (0 : Int) ∧ True) ∧ True) ∨ ∃ (x' : DX), R false x' ∧ x'.2 + (1 :
  Nat) ≤ x.2 ∧ true = true ∧ ((0 : Nat) = (0 : Nat) ∧ ((0 : Nat) = (0 : Nat) ∧ List.length (DX.D x) = List.length (DX.D x') ∧ True) ∧ (ps = ps ∧ (false = true → false = true)) ∧
  (↑(List.length ps) : Int) = (↑(List.length ps) : Int) ∧ wr IntKind.i64 ((↑(DX.k x) : Int) + (1 : Int)) = (↑(DX.k x') : Int) ∧ True) ∧ (DX.D x = DX.D x' ∧ (0 : Nat) = (0 : Nat)) ∧
  ((0 : Int) = (0 : Int) ∧ (0 : Int) = (0 : Int) ∧ (0 : Int) = (0 : Int) ∧ (0 : Int) = (0 : Int) ∧ (0 : Int) = (0 : Int) ∧ (0 : Int) = (0 : Int) ∧ (0 : Int) = (0 : Int) ∧ (0 : Int) =
  (0 : Int) ∧ (0 : Int) = (0 : Int) ∧ (0 : Int) = (0 : Int) ∧ (0 : Int) = (0 : Int) ∧ (0 : Int) = (0 : Int) ∧ (0 : Int) = (0 : Int) ∧ (0 : Int) = (0 : Int) ∧ (0 : Int) = (0 : Int) ∧
  (0 : Int) = (0 : Int) ∧ (0 : Int) = (0 : Int) ∧ (0 : Int) = (0 : Int) ∧ (0 : Int) = (0 : Int) ∧ (0 : Int) = (0 : Int) ∧ (0 : Int) = (0 : Int) ∧ (0 : Int) = (0 : Int) ∧ (0 : Int) =
  (0 : Int) ∧ (0 : Int) = (0 : Int) ∧ (0 : Int) = (0 : Int) ∧ (0 : Int) = (0 : Int) ∧ (0 : Int) = (0 : Int) ∧ (0 : Int) = (0 : Int) ∧ (0 : Int) = (0 : Int) ∧ (0 : Int) = (0 : Int) ∧
  (0 : Int) = (0 : Int) ∧ (0 : Int) = (0 : Int) ∧ True) ∧ True) ∧ (x_1 ≠ ([] : List Int) → (List.length (DX.D x) ≤ List.length (DX.D x) ∧ (0 : Nat) ≤ List.length (DX.D x) ∧
  (List.length (DX.D x) + List.length x_1) * (1 : Nat) ≤ (140737488355328 : Nat)) ∧ ((∃ (x' : DX), R true x' ∧ x'.2 + (1 : Nat) ≤ x.2 ∧ true = true ∧ ((0 : Nat) = (0 : Nat) ∧ False ∧
  (ps = ps ∧ (false = true → false = true)) ∧ (↑(List.length ps) : Int) = (↑(List.length ps) : Int) ∧ wr IntKind.i64 ((↑(DX.k x) : Int) + (1 : Int)) = (↑(DX.k x') : Int) ∧ True) ∧
  ((0 : Int) = (0 : Int) ∧ (0 : Int) = (0 : Int) ∧ (0 : Int) = (0 : Int) ∧ (0 : Int) = (0 : Int) ∧ (0 : Int) = (0 : Int) ∧ (0 : Int) = (0 : Int) ∧ (0 : Int) = (0 : Int) ∧ (0 : Int) =
  (0 : Int) ∧ (0 : Int) = (0 : Int) ∧ (0 : Int) = (0 : Int) ∧ (0 : Int) = (0 : Int) ∧ (0 : Int) = (0 : Int) ∧ (0 : Int) = (0 : Int) ∧ (0 : Int) = (0 : Int) ∧ (0 : Int) = (0 : Int) ∧
  (0 : Int) = (0 : Int) ∧ (0 : Int) = (0 : Int) ∧ (0 : Int) = (0 : Int) ∧ (0 : Int) = (0 : Int) ∧ (0 : Int) = (0 : Int) ∧ (0 : Int) = (0 : Int) ∧ (0 : Int) = (0 : Int) ∧ (0 : Int) =
  (0 : Int) ∧ (0 : Int) = (0 : Int) ∧ (0 : Int) = (0 : Int) ∧ (0 : Int) = (0 : Int) ∧ (0 : Int) = (0 : Int) ∧ (0 : Int) = (0 : Int) ∧ (0 : Int) = (0 : Int) ∧ (0 : Int) = (0 : Int) ∧
  (0 : Int) = (0 : Int) ∧ (0 : Int) = (0 : Int) ∧ True) ∧ True) ∨ ∃ (x' : DX), R false x' ∧ x'.2 + (1 : Nat) ≤ x.2 ∧ true = true ∧ ((0 : Nat) = (0 : Nat) ∧ ((0 : Nat) = (0 : Nat) ∧
  List.length (DX.D x) + List.length x_1 = List.length (DX.D x') ∧ True) ∧ (ps = ps ∧ (false = true → false = true)) ∧ (↑(List.length ps) : Int) = (↑(List.length ps) : Int) ∧ wr
  IntKind.i64 ((↑(DX.k x) : Int) + (1 : Int)) = (↑(DX.k x') : Int) ∧ True) ∧ (List.take (List.length (DX.D x)) (DX.D x) ++ x_1 = DX.D x' ∧ (0 : Nat) = (0 : Nat)) ∧ ((0 : Int) = (0 :
  Int) ∧ (0 : Int) = (0 : Int) ∧ (0 : Int) = (0 : Int) ∧ (0 : Int) = (0 : Int) ∧ (0 : Int) = (0 : Int) ∧ (0 : Int) = (0 : Int) ∧ (0 : Int) = (0 : Int) ∧ (0 : Int) = (0 : Int) ∧ (0 :
  Int) = (0 : Int) ∧ (0 : Int) = (0 : Int) ∧ (0 : Int) = (0 : Int) ∧ (0 : Int) = (0 : Int) ∧ (0 : Int) = (0 : Int) ∧ (0 : Int) = (0 : Int) ∧ (0 : Int) = (0 : Int) ∧ (0 : Int) = (0 :
  Int) ∧ (0 : Int) = (0 : Int) ∧ (0 : Int) = (0 : Int) ∧ (0 : Int) = (0 : Int) ∧ (0 : Int) = (0 : Int) ∧ (0 : Int) = (0 : Int) ∧ (0 : Int) = (0 : Int) ∧ (0 : Int) = (0 : Int) ∧ (0 :
  Int) = (0 : Int) ∧ (0 : Int) = (0 : Int) ∧ (0 : Int) = (0 : Int) ∧ (0 : Int) = (0 : Int) ∧ (0 : Int) = (0 : Int) ∧ (0 : Int) = (0 : Int) ∧ (0 : Int) = (0 : Int) ∧ (0 : Int) = (0 :
  Int) ∧ (0 : Int) = (0 : Int) ∧ True) ∧ True))) ∧ (decide ((↑(DX.k x) : Int) < (↑(List.length ps) : Int)) = false → (List.length (DX.D x) ≤ List.length (DX.D x) ∧ (0 : Nat) ≤
  List.length (DX.D x) ∧ (List.length (DX.D x) + (1 : Nat)) * (1 : Nat) ≤ (140737488355328 : Nat)) ∧ ∃ (R : DX → Prop), (∃ (x_1 : DX), R x_1 ∧ true = true ∧ ((0 : Nat) = (0 : Nat) ∧
  ((0 : Nat) = (0 : Nat) ∧ List.length (DX.D x) + (1 : Nat) = List.length (DX.D x_1) ∧ True) ∧ wr IntKind.u64 (wr IntKind.u64 (↑(List.length (DX.D x)) : Int) * (8 : Int)) = wr
  IntKind.u64 (wr IntKind.u64 (↑(List.length (DX.D x)) : Int) * (8 : Int)) ∧ True) ∧ (List.take (List.length (DX.D x)) (DX.D x) ++ [(128 : Int)] = DX.D x_1 ∧ (0 : Nat) = (0 : Nat)) ∧
  ((0 : Int) = (0 : Int) ∧ (0 : Int) = (0 : Int) ∧ (0 : Int) = (0 : Int) ∧ (0 : Int) = (0 : Int) ∧ (0 : Int) = (0 : Int) ∧ (0 : Int) = (0 : Int) ∧ (0 : Int) = (0 : Int) ∧ (0 : Int) =
  (0 : Int) ∧ (0 : Int) = (0 : Int) ∧ (0 : Int) = (0 : Int) ∧ (0 : Int) = (0 : Int) ∧ (0 : Int) = (0 : Int) ∧ (0 : Int) = (0 : Int) ∧ (0 : Int) = (0 : Int) ∧ (0 : Int) = (0 : Int) ∧
  (0 : Int) = (0 : Int) ∧ (0 : Int) = (0 : Int) ∧ (0 : Int) = (0 : Int) ∧ (0 : Int) = (0 : Int) ∧ (0 : Int) = (0 : Int) ∧ (0 : Int) = (0 : Int) ∧ (0 : Int) = (0 : Int) ∧ (0 : Int) =
  (0 : Int) ∧ (0 : Int) = (0 : Int) ∧ (0 : Int) = (0 : Int) ∧ (0 : Int) = (0 : Int) ∧ (0 : Int) = (0 : Int) ∧ (0 : Int) = (0 : Int) ∧ (0 : Int) = (0 : Int) ∧ (0 : Int) = (0 : Int) ∧
  (0 : Int) = (0 : Int) ∧ (0 : Int) = (0 : Int) ∧ True) ∧ True) ∧ ∀ (x_1 : DX), R x_1 → ((Int.tmod (↑(List.length (DX.D x_1)) : Int) (64 : Int) != (56 : Int)) = true → (List.length
  (DX.D x_1) ≤ List.length (DX.D x_1) ∧ (0 : Nat) ≤ List.length (DX.D x_1) ∧ (List.length (DX.D x_1) + (1 : Nat)) * (1 : Nat) ≤ (140737488355328 : Nat)) ∧ ∃ (x' : DX), R x' ∧ x'.2 +
  (1 : Nat) ≤ x_1.2 ∧ true = true ∧ ((0 : Nat) = (0 : Nat) ∧ ((0 : Nat) = (0 : Nat) ∧ List.length (DX.D x_1) + (1 : Nat) = List.length (DX.D x') ∧ True) ∧ wr IntKind.u64 (wr
  IntKind.u64 (↑(List.length (DX.D x)) : Int) * (8 : Int)) = wr IntKind.u64 (wr IntKind.u64 (↑(List.length (DX.D x)) : Int) * (8 : Int)) ∧ True) ∧ (List.take (List.length (DX.D x_1))
  (DX.D x_1) ++ [(0 : Int)] = DX.D x' ∧ (0 : Nat) = (0 : Nat)) ∧ ((0 : Int) = (0 : Int) ∧ (0 : Int) = (0 : Int) ∧ (0 : Int) = (0 : Int) ∧ (0 : Int) = (0 : Int) ∧ (0 : Int) = (0 :
  Int) ∧ (0 : Int) = (0 : Int) ∧ (0 : Int) = (0 : Int) ∧ (0 : Int) = (0 : Int) ∧ (0 : Int) = (0 : Int) ∧ (0 : Int) = (0 : Int) ∧ (0 : Int) = (0 : Int) ∧ (0 : Int) = (0 : Int) ∧ (0 :
  Int) = (0 : Int) ∧ (0 : Int) = (0 : Int) ∧ (0 : Int) = (0 : Int) ∧ (0 : Int) = (0 : Int) ∧ (0 : Int) = (0 : Int) ∧ (0 : Int) = (0 : Int) ∧ (0 : Int) = (0 : Int) ∧ (0 : Int) = (0 :
  Int) ∧ (0 : Int) = (0 : Int) ∧ (0 : Int) = (0 : Int) ∧ (0 : Int) = (0 : Int) ∧ (0 : Int) = (0 : Int) ∧ (0 : Int) = (0 : Int) ∧ (0 : Int) = (0 : Int) ∧ (0 : Int) = (0 : Int) ∧ (0 :
  Int) = (0 : Int) ∧ (0 : Int) = (0 : Int) ∧ (0 : Int) = (0 : Int) ∧ (0 : Int) = (0 : Int) ∧ (0 : Int) = (0 : Int) ∧ True) ∧ True) ∧ ((Int.tmod (↑(List.length (DX.D x_1)) : Int) (64
  : Int) != (56 : Int)) = false → ∃ (R : DX → Prop), (∃ (x_2 : DX), R x_2 ∧ true = true ∧ ((0 : Nat) = (0 : Nat) ∧ ((0 : Nat) = (0 : Nat) ∧ List.length (DX.D x_1) = List.length (DX.D
  x_2) ∧ True) ∧ wr IntKind.u64 (wr IntKind.u64 (↑(List.length (DX.D x)) : Int) * (8 : Int)) = wr IntKind.u64 (wr IntKind.u64 (↑(List.length (DX.D x)) : Int) * (8 : Int)) ∧ (56 :
  Int) = DX.j x_2 ∧ True) ∧ (DX.D x_1 = DX.D x_2 ∧ (0 : Nat) = (0 : Nat)) ∧ ((0 : Int) = (0 : Int) ∧ (0 : Int) = (0 : Int) ∧ (0 : Int) = (0 : Int) ∧ (0 : Int) = (0 : Int) ∧ (0 : Int)
  = (0 : Int) ∧ (0 : Int) = (0 : Int) ∧ (0 : Int) = (0 : Int) ∧ (0 : Int) = (0 : Int) ∧ (0 : Int) = (0 : Int) ∧ (0 : Int) = (0 : Int) ∧ (0 : Int) = (0 : Int) ∧ (0 : Int) = (0 : Int)
  ∧ (0 : Int) = (0 : Int) ∧ (0 : Int) = (0 : Int) ∧ (0 : Int) = (0 : Int) ∧ (0 : Int) = (0 : Int) ∧ (0 : Int) = (0 : Int) ∧ (0 : Int) = (0 : Int) ∧ (0 : Int) = (0 : Int) ∧ (0 : Int)
  = (0 : Int) ∧ (0 : Int) = (0 : Int) ∧ (0 : Int) = (0 : Int) ∧ (0 : Int) = (0 : Int) ∧ (0 : Int) = (0 : Int) ∧ (0 : Int) = (0 : Int) ∧ (0 : Int) = (0 : Int) ∧ (0 : Int) = (0 : Int)
  ∧ (0 : Int) = (0 : Int) ∧ (0 : Int) = (0 : Int) ∧ (0 : Int) = (0 : Int) ∧ (0 : Int) = (0 : Int) ∧ (0 : Int) = (0 : Int) ∧ True) ∧ True) ∧ ∀ (x_2 : DX), R x_2 → (decide (DX.j x_2 ≥
  (0 : Int)) = true → (0 : Int) ≤ DX.j x_2 ∧ (List.length (DX.D x_2) ≤ List.length (DX.D x_2) ∧ (0 : Nat) ≤ List.length (DX.D x_2) ∧ (List.length (DX.D x_2) + (1 : Nat)) * (1 : Nat)
  ≤ (140737488355328 : Nat)) ∧ ∃ (x' : DX), R x' ∧ x'.2 + (1 : Nat) ≤ x_2.2 ∧ true = true ∧ ((0 : Nat) = (0 : Nat) ∧ ((0 : Nat) = (0 : Nat) ∧ List.length (DX.D x_2) + (1 : Nat) =
  List.length (DX.D x') ∧ True) ∧ wr IntKind.u64 (wr IntKind.u64 (↑(List.length (DX.D x)) : Int) * (8 : Int)) = wr IntKind.u64 (wr IntKind.u64 (↑(List.length (DX.D x)) : Int) * (8 :
  Int)) ∧ wr IntKind.i64 (DX.j x_2 - (8 : Int)) = DX.j x' ∧ True) ∧ (List.take (List.length (DX.D x_2)) (DX.D x_2) ++ [wr IntKind.u8 (Int.fdiv (wr IntKind.u64 (wr IntKind.u64
  (↑(List.length (DX.D x)) : Int) * (8 : Int))) ((2 : Int) ^ min (Int.toNat (DX.j x_2)) (IntKind.bits IntKind.u64)))] = DX.D x' ∧ (0 : Nat) = (0 : Nat)) ∧ ((0 : Int) = (0 : Int) ∧ (0
  : Int) = (0 : Int) ∧ (0 : Int) = (0 : Int) ∧ (0 : Int) = (0 : Int) ∧ (0 : Int) = (0 : Int) ∧ (0 : Int) = (0 : Int) ∧ (0 : Int) = (0 : Int) ∧ (0 : Int) = (0 : Int) ∧ (0 : Int) = (0
  : Int) ∧ (0 : Int) = (0 : Int) ∧ (0 : Int) = (0 : Int) ∧ (0 : Int) = (0 : Int) ∧ (0 : Int) = (0 : Int) ∧ (0 : Int) = (0 : Int) ∧ (0 : Int) = (0 : Int) ∧ (0 : Int) = (0 : Int) ∧ (0
  : Int) = (0 : Int) ∧ (0 : Int) = (0 : Int) ∧ (0 : Int) = (0 : Int) ∧ (0 : Int) = (0 : Int) ∧ (0 : Int) = (0 : Int) ∧ (0 : Int) = (0 : Int) ∧ (0 : Int) = (0 : Int) ∧ (0 : Int) = (0
  : Int) ∧ (0 : Int) = (0 : Int) ∧ (0 : Int) = (0 : Int) ∧ (0 : Int) = (0 : Int) ∧ (0 : Int) = (0 : Int) ∧ (0 : Int) = (0 : Int) ∧ (0 : Int) = (0 : Int) ∧ (0 : Int) = (0 : Int) ∧ (0
  : Int) = (0 : Int) ∧ True) ∧ True) ∧ (decide (DX.j x_2 ≥ (0 : Int)) = false → ∃ (R : Bool → DX → Prop), ((∃ (x : DX), R true x ∧ true = true ∧ ((0 : Nat) = (0 : Nat) ∧ ((0 : Nat) =
  DX.n x ∧ List.length (DX.D x_2) = DX.m x ∧ True) ∧ (0 : Nat) = (0 : Nat) ∧ True) ∧ ((1779033703 : Int) = List.getD (DX.H x) (0 : Nat) (0 : Int) ∧ (3144134277 : Int) = List.getD
  (DX.H x) (1 : Nat) (0 : Int) ∧ (1013904242 : Int) = List.getD (DX.H x) (2 : Nat) (0 : Int) ∧ (2773480762 : Int) = List.getD (DX.H x) (3 : Nat) (0 : Int) ∧ (1359893119 : Int) =
  List.getD (DX.H x) (4 : Nat) (0 : Int) ∧ (2600822924 : Int) = List.getD (DX.H x) (5 : Nat) (0 : Int) ∧ (528734635 : Int) = List.getD (DX.H x) (6 : Nat) (0 : Int) ∧ (1541459225 :
  Int) = List.getD (DX.H x) (7 : Nat) (0 : Int) ∧ True) ∧ (DX.D x_2 = DX.D x_2 ∧ (0 : Nat) = DX.fz x) ∧ ((0 : Int) = (0 : Int) ∧ (0 : Int) = (0 : Int) ∧ (0 : Int) = (0 : Int) ∧ (0 :
  Int) = (0 : Int) ∧ (0 : Int) = (0 : Int) ∧ (0 : Int) = (0 : Int) ∧ (0 : Int) = (0 : Int) ∧ (0 : Int) = (0 : Int) ∧ (0 : Int) = (0 : Int) ∧ (0 : Int) = (0 : Int) ∧ (0 : Int) = (0 :
  Int) ∧ (0 : Int) = (0 : Int) ∧ (0 : Int) = (0 : Int) ∧ (0 : Int) = (0 : Int) ∧ (0 : Int) = (0 : Int) ∧ (0 : Int) = (0 : Int) ∧ (0 : Int) = (0 : Int) ∧ (0 : Int) = (0 : Int) ∧ (0 :
  Int) = (0 : Int) ∧ (0 : Int) = (0 : Int) ∧ (0 : Int) = (0 : Int) ∧ (0 : Int) = (0 : Int) ∧ (0 : Int) = (0 : Int) ∧ (0 : Int) = (0 : Int) ∧ (0 : Int) = (0 : Int) ∧ (0 : Int) = (0 :
  Int) ∧ (0 : Int) = (0 : Int) ∧ (0 : Int) = (0 : Int) ∧ (0 : Int) = (0 : Int) ∧ (0 : Int) = (0 : Int) ∧ (0 : Int) = (0 : Int) ∧ (0 : Int) = (0 : Int) ∧ True) ∧ True) ∨ ∃ (x : DX), R
  false x ∧ true = true ∧ ((0 : Nat) = (0 : Nat) ∧ False ∧ (0 : Nat) = (0 : Nat) ∧ True) ∧ ((1779033703 : Int) = List.getD (DX.H x) (0 : Nat) (0 : Int) ∧ (3144134277 : Int) =
  List.getD (DX.H x) (1 : Nat) (0 : Int) ∧ (1013904242 : Int) = List.getD (DX.H x) (2 : Nat) (0 : Int) ∧ (2773480762 : Int) = List.getD (DX.H x) (3 : Nat) (0 : Int) ∧ (1359893119 :
  Int) = List.getD (DX.H x) (4 : Nat) (0 : Int) ∧ (2600822924 : Int) = List.getD (DX.H x) (5 : Nat) (0 : Int) ∧ (528734635 : Int) = List.getD (DX.H x) (6 : Nat) (0 : Int) ∧
  (1541459225 : Int) = List.getD (DX.H x) (7 : Nat) (0 : Int) ∧ True) ∧ ((0 : Int) = (0 : Int) ∧ (0 : Int) = (0 : Int) ∧ (0 : Int) = (0 : Int) ∧ (0 : Int) = (0 : Int) ∧ (0 : Int) =
  (0 : Int) ∧ (0 : Int) = (0 : Int) ∧ (0 : Int) = (0 : Int) ∧ (0 : Int) = (0 : Int) ∧ (0 : Int) = (0 : Int) ∧ (0 : Int) = (0 : Int) ∧ (0 : Int) = (0 : Int) ∧ (0 : Int) = (0 : Int) ∧
  (0 : Int) = (0 : Int) ∧ (0 : Int) = (0 : Int) ∧ (0 : Int) = (0 : Int) ∧ (0 : Int) = (0 : Int) ∧ (0 : Int) = (0 : Int) ∧ (0 : Int) = (0 : Int) ∧ (0 : Int) = (0 : Int) ∧ (0 : Int) =
  (0 : Int) ∧ (0 : Int) = (0 : Int) ∧ (0 : Int) = (0 : Int) ∧ (0 : Int) = (0 : Int) ∧ (0 : Int) = (0 : Int) ∧ (0 : Int) = (0 : Int) ∧ (0 : Int) = (0 : Int) ∧ (0 : Int) = (0 : Int) ∧
  (0 : Int) = (0 : Int) ∧ (0 : Int) = (0 : Int) ∧ (0 : Int) = (0 : Int) ∧ (0 : Int) = (0 : Int) ∧ (0 : Int) = (0 : Int) ∧ True) ∧ True) ∧ (∀ (x : DX), R true x → (decide ((↑(DX.m x)
  : Int) > (0 : Int)) = true → ((0 : Int) ≤ (64 : Int) ∧ (64 : Int) ≤ (↑(DX.m x) : Int)) ∧ DX.n x + Int.toNat (64 : Int) ≤ List.length (DX.D x_2) ∧ ((8 : Nat) = (8 : Nat) ∧
  List.length (List.take (Int.toNat (64 : Int)) (List.drop (DX.n x) (DX.D x_2))) = (64 : Nat)) ∧ ((0 : Int) ≤ (64 : Int) ∧ (64 : Int) ≤ (↑(DX.m x) : Int)) ∧ (decide ((64 : Int) <
  (↑(DX.m x) : Int)) = true → (∃ (x' : DX), R true x' ∧ x'.2 + (1 : Nat) ≤ x.2 ∧ true = true ∧ ((0 : Nat) = (0 : Nat) ∧ (DX.n x + Int.toNat (64 : Int) = DX.n x' ∧ DX.m x - Int.toNat
  (64 : Int) = DX.m x' ∧ True) ∧ (0 : Nat) = (0 : Nat) ∧ True) ∧ (List.getD (blkF [List.getD (DX.H x) (0 : Nat) (0 : Int), List.getD (DX.H x) (1 : Nat) (0 : Int), List.getD (DX.H x)
  (2 : Nat) (0 : Int), List.getD (DX.H x) (3 : Nat) (0 : Int), List.getD (DX.H x) (4 : Nat) (0 : Int), List.getD (DX.H x) (5 : Nat) (0 : Int), List.getD (DX.H x) (6 : Nat) (0 : Int),
  List.getD (DX.H x) (7 : Nat) (0 : Int)] (List.take (Int.toNat (64 : Int)) (List.drop (DX.n x) (DX.D x_2)))) (0 : Nat) (0 : Int) = List.getD (DX.H x') (0 : Nat) (0 : Int) ∧
  List.getD (blkF [List.getD (DX.H x) (0 : Nat) (0 : Int), List.getD (DX.H x) (1 : Nat) (0 : Int), List.getD (DX.H x) (2 : Nat) (0 : Int), List.getD (DX.H x) (3 : Nat) (0 : Int),
  List.getD (DX.H x) (4 : Nat) (0 : Int), List.getD (DX.H x) (5 : Nat) (0 : Int), List.getD (DX.H x) (6 : Nat) (0 : Int), List.getD (DX.H x) (7 : Nat) (0 : Int)] (List.take
  (Int.toNat (64 : Int)) (List.drop (DX.n x) (DX.D x_2)))) (1 : Nat) (0 : Int) = List.getD (DX.H x') (1 : Nat) (0 : Int) ∧ List.getD (blkF [List.getD (DX.H x) (0 : Nat) (0 : Int),
  List.getD (DX.H x) (1 : Nat) (0 : Int), List.getD (DX.H x) (2 : Nat) (0 : Int), List.getD (DX.H x) (3 : Nat) (0 : Int), List.getD (DX.H x) (4 : Nat) (0 : Int), List.getD (DX.H x)
  (5 : Nat) (0 : Int), List.getD (DX.H x) (6 : Nat) (0 : Int), List.getD (DX.H x) (7 : Nat) (0 : Int)] (List.take (Int.toNat (64 : Int)) (List.drop (DX.n x) (DX.D x_2)))) (2 : Nat)
  (0 : Int) = List.getD (DX.H x') (2 : Nat) (0 : Int) ∧ List.getD (blkF [List.getD (DX.H x) (0 : Nat) (0 : Int), List.getD (DX.H x) (1 : Nat) (0 : Int), List.getD (DX.H x) (2 : Nat)
  (0 : Int), List.getD (DX.H x) (3 : Nat) (0 : Int), List.getD (DX.H x) (4 : Nat) (0 : Int), List.getD (DX.H x) (5 : Nat) (0 : Int), List.getD (DX.H x) (6 : Nat) (0 : Int), List.getD
  (DX.H x) (7 : Nat) (0 : Int)] (List.take (Int.toNat (64 : Int)) (List.drop (DX.n x) (DX.D x_2)))) (3 : Nat) (0 : Int) = List.getD (DX.H x') (3 : Nat) (0 : Int) ∧ List.getD (blkF
  [List.getD (DX.H x) (0 : Nat) (0 : Int), List.getD (DX.H x) (1 : Nat) (0 : Int), List.getD (DX.H x) (2 : Nat) (0 : Int), List.getD (DX.H x) (3 : Nat) (0 : Int), List.getD (DX.H x)
  (4 : Nat) (0 : Int), List.getD (DX.H x) (5 : Nat) (0 : Int), List.getD (DX.H x) (6 : Nat) (0 : Int), List.getD (DX.H x) (7 : Nat) (0 : Int)] (List.take (Int.toNat (64 : Int))
  (List.drop (DX.n x) (DX.D x_2)))) (4 : Nat) (0 : Int) = List.getD (DX.H x') (4 : Nat) (0 : Int) ∧ List.getD (blkF [List.getD (DX.H x) (0 : Nat) (0 : Int), List.getD (DX.H x) (1 :
  Nat) (0 : Int), List.getD (DX.H x) (2 : Nat) (0 : Int), List.getD (DX.H x) (3 : Nat) (0 : Int), List.getD (DX.H x) (4 : Nat) (0 : Int), List.getD (DX.H x) (5 : Nat) (0 : Int),
  List.getD (DX.H x) (6 : Nat) (0 : Int), List.getD (DX.H x) (7 : Nat) (0 : Int)] (List.take (Int.toNat (64 : Int)) (List.drop (DX.n x) (DX.D x_2)))) (5 : Nat) (0 : Int) = List.getD
  (DX.H x') (5 : Nat) (0 : Int) ∧ List.getD (blkF [List.getD (DX.H x) (0 : Nat) (0 : Int), List.getD (DX.H x) (1 : Nat) (0 : Int), List.getD (DX.H x) (2 : Nat) (0 : Int), List.getD
  (DX.H x) (3 : Nat) (0 : Int), List.getD (DX.H x) (4 : Nat) (0 : Int), List.getD (DX.H x) (5 : Nat) (0 : Int), List.getD (DX.H x) (6 : Nat) (0 : Int), List.getD (DX.H x) (7 : Nat)
  (0 : Int)] (List.take (Int.toNat (64 : Int)) (List.drop (DX.n x) (DX.D x_2)))) (6 : Nat) (0 : Int) = List.getD (DX.H x') (6 : Nat) (0 : Int) ∧ List.getD (blkF [List.getD (DX.H x)
  (0 : Nat) (0 : Int), List.getD (DX.H x) (1 : Nat) (0 : Int), List.getD (DX.H x) (2 : Nat) (0 : Int), List.getD (DX.H x) (3 : Nat) (0 : Int), List.getD (DX.H x) (4 : Nat) (0 : Int),
  List.getD (DX.H x) (5 : Nat) (0 : Int), List.getD (DX.H x) (6 : Nat) (0 : Int), List.getD (DX.H x) (7 : Nat) (0 : Int)] (List.take (Int.toNat (64 : Int)) (List.drop (DX.n x) (DX.D
  x_2)))) (7 : Nat) (0 : Int) = List.getD (DX.H x') (7 : Nat) (0 : Int) ∧ True) ∧ (DX.D x_2 = DX.D x_2 ∧ mx2 (DX.fz x) (List.length (DX.D x_2)) = DX.fz x') ∧ ((0 : Int) = (0 : Int) ∧
  (0 : Int) = (0 : Int) ∧ (0 : Int) = (0 : Int) ∧ (0 : Int) = (0 : Int) ∧ (0 : Int) = (0 : Int) ∧ (0 : Int) = (0 : Int) ∧ (0 : Int) = (0 : Int) ∧ (0 : Int) = (0 : Int) ∧ (0 : Int) =
  (0 : Int) ∧ (0 : Int) = (0 : Int) ∧ (0 : Int) = (0 : Int) ∧ (0 : Int) = (0 : Int) ∧ (0 : Int) = (0 : Int) ∧ (0 : Int) = (0 : Int) ∧ (0 : Int) = (0 : Int) ∧ (0 : Int) = (0 : Int) ∧
  (0 : Int) = (0 : Int) ∧ (0 : Int) = (0 : Int) ∧ (0 : Int) = (0 : Int) ∧ (0 : Int) = (0 : Int) ∧ (0 : Int) = (0 : Int) ∧ (0 : Int) = (0 : Int) ∧ (0 : Int) = (0 : Int) ∧ (0 : Int) =
  (0 : Int) ∧ (0 : Int) = (0 : Int) ∧ (0 : Int) = (0 : Int) ∧ (0 : Int) = (0 : Int) ∧ (0 : Int) = (0 : Int) ∧ (0 : Int) = (0 : Int) ∧ (0 : Int) = (0 : Int) ∧ (0 : Int) = (0 : Int) ∧
  (0 : Int) = (0 : Int) ∧ True) ∧ True) ∨ ∃ (x' : DX), R false x' ∧ x'.2 + (1 : Nat) ≤ x.2 ∧ true = true ∧ ((0 : Nat) = (0 : Nat) ∧ False ∧ (0 : Nat) = (0 : Nat) ∧ True) ∧ (List.getD
  (blkF [List.getD (DX.H x) (0 : Nat) (0 : Int), List.getD (DX.H x) (1 : Nat) (0 : Int), List.getD (DX.H x) (2 : Nat) (0 : Int), List.getD (DX.H x) (3 : Nat) (0 : Int), List.getD
  (DX.H x) (4 : Nat) (0 : Int), List.getD (DX.H x) (5 : Nat) (0 : Int), List.getD (DX.H x) (6 : Nat) (0 : Int), List.getD (DX.H x) (7 : Nat) (0 : Int)] (List.take (Int.toNat (64 :
  Int)) (List.drop (DX.n x) (DX.D x_2)))) (0 : Nat) (0 : Int) = List.getD (DX.H x') (0 : Nat) (0 : Int) ∧ List.getD (blkF [List.getD (DX.H x) (0 : Nat) (0 : Int), List.getD (DX.H x)
  (1 : Nat) (0 : Int), List.getD (DX.H x) (2 : Nat) (0 : Int), List.getD (DX.H x) (3 : Nat) (0 : Int), List.getD (DX.H x) (4 : Nat) (0 : Int), List.getD (DX.H x) (5 : Nat) (0 : Int),
  List.getD (DX.H x) (6 : Nat) (0 : Int), List.getD (DX.H x) (7 : Nat) (0 : Int)] (List.take (Int.toNat (64 : Int)) (List.drop (DX.n x) (DX.D x_2)))) (1 : Nat) (0 : Int) = List.getD
  (DX.H x') (1 : Nat) (0 : Int) ∧ List.getD (blkF [List.getD (DX.H x) (0 : Nat) (0 : Int), List.getD (DX.H x) (1 : Nat) (0 : Int), List.getD (DX.H x) (2 : Nat) (0 : Int), List.getD
  (DX.H x) (3 : Nat) (0 : Int), List.getD (DX.H x) (4 : Nat) (0 : Int), List.getD (DX.H x) (5 : Nat) (0 : Int), List.getD (DX.H x) (6 : Nat) (0 : Int), List.getD (DX.H x) (7 : Nat)
  (0 : Int)] (List.take (Int.toNat (64 : Int)) (List.drop (DX.n x) (DX.D x_2)))) (2 : Nat) (0 : Int) = List.getD (DX.H x') (2 : Nat) (0 : Int) ∧ List.getD (blkF [List.getD (DX.H x)
  (0 : Nat) (0 : Int), List.getD (DX.H x) (1 : Nat) (0 : Int), List.getD (DX.H x) (2 : Nat) (0 : Int), List.getD (DX.H x) (3 : Nat) (0 : Int), List.getD (DX.H x) (4 : Nat) (0 : Int),
  List.getD (DX.H x) (5 : Nat) (0 : Int), List.getD (DX.H x) (6 : Nat) (0 : Int), List.getD (DX.H x) (7 : Nat) (0 : Int)] (List.take (Int.toNat (64 : Int)) (List.drop (DX.n x) (DX.D
  x_2)))) (3 : Nat) (0 : Int) = List.getD (DX.H x') (3 : Nat) (0 : Int) ∧ List.getD (blkF [List.getD (DX.H x) (0 : Nat) (0 : Int), List.getD (DX.H x) (1 : Nat) (0 : Int), List.getD
  (DX.H x) (2 : Nat) (0 : Int), List.getD (DX.H x) (3 : Nat) (0 : Int), List.getD (DX.H x) (4 : Nat) (0 : Int), List.getD (DX.H x) (5 : Nat) (0 : Int), List.getD (DX.H x) (6 : Nat)
  (0 : Int), List.getD (DX.H x) (7 : Nat) (0 : Int)] (List.take (Int.toNat (64 : Int)) (List.drop (DX.n x) (DX.D x_2)))) (4 : Nat) (0 : Int) = List.getD (DX.H x') (4 : Nat) (0 : Int)
  ∧ List.getD (blkF [List.getD (DX.H x) (0 : Nat) (0 : Int), List.getD (DX.H x) (1 : Nat) (0 : Int), List.getD (DX.H x) (2 : Nat) (0 : Int), List.getD (DX.H x) (3 : Nat) (0 : Int),
  List.getD (DX.H x) (4 : Nat) (0 : Int), List.getD (DX.H x) (5 : Nat) (0 : Int), List.getD (DX.H x) (6 : Nat) (0 : Int), List.getD (DX.H x) (7 : Nat) (0 : Int)] (List.take
  (Int.toNat (64 : Int)) (List.drop (DX.n x) (DX.D x_2)))) (5 : Nat) (0 : Int) = List.getD (DX.H x') (5 : Nat) (0 : Int) ∧ List.getD (blkF [List.getD (DX.H x) (0 : Nat) (0 : Int),
  List.getD (DX.H x) (1 : Nat) (0 : Int), List.getD (DX.H x) (2 : Nat) (0 : Int), List.getD (DX.H x) (3 : Nat) (0 : Int), List.getD (DX.H x) (4 : Nat) (0 : Int), List.getD (DX.H x)
  (5 : Nat) (0 : Int), List.getD (DX.H x) (6 : Nat) (0 : Int), List.getD (DX.H x) (7 : Nat) (0 : Int)] (List.take (Int.toNat (64 : Int)) (List.drop (DX.n x) (DX.D x_2)))) (6 : Nat)
  (0 : Int) = List.getD (DX.H x') (6 : Nat) (0 : Int) ∧ List.getD (blkF [List.getD (DX.H x) (0 : Nat) (0 : Int), List.getD (DX.H x) (1 : Nat) (0 : Int), List.getD (DX.H x) (2 : Nat)
  (0 : Int), List.getD (DX.H x) (3 : Nat) (0 : Int), List.getD (DX.H x) (4 : Nat) (0 : Int), List.getD (DX.H x) (5 : Nat) (0 : Int), List.getD (DX.H x) (6 : Nat) (0 : Int), List.getD
  (DX.H x) (7 : Nat) (0 : Int)] (List.take (Int.toNat (64 : Int)) (List.drop (DX.n x) (DX.D x_2)))) (7 : Nat) (0 : Int) = List.getD (DX.H x') (7 : Nat) (0 : Int) ∧ True) ∧ ((0 : Int)
  = (0 : Int) ∧ (0 : Int) = (0 : Int) ∧ (0 : Int) = (0 : Int) ∧ (0 : Int) = (0 : Int) ∧ (0 : Int) = (0 : Int) ∧ (0 : Int) = (0 : Int) ∧ (0 : Int) = (0 : Int) ∧ (0 : Int) = (0 : Int)
  ∧ (0 : Int) = (0 : Int) ∧ (0 : Int) = (0 : Int) ∧ (0 : Int) = (0 : Int) ∧ (0 : Int) = (0 : Int) ∧ (0 : Int) = (0 : Int) ∧ (0 : Int) = (0 : Int) ∧ (0 : Int) = (0 : Int) ∧ (0 : Int)
  = (0 : Int) ∧ (0 : Int) = (0 : Int) ∧ (0 : Int) = (0 : Int) ∧ (0 : Int) = (0 : Int) ∧ (0 : Int) = (0 : Int) ∧ (0 : Int) = (0 : Int) ∧ (0 : Int) = (0 : Int) ∧ (0 : Int) = (0 : Int)
  ∧ (0 : Int) = (0 : Int) ∧ (0 : Int) = (0 : Int) ∧ (0 : Int) = (0 : Int) ∧ (0 : Int) = (0 : Int) ∧ (0 : Int) = (0 : Int) ∧ (0 : Int) = (0 : Int) ∧ (0 : Int) = (0 : Int) ∧ (0 : Int)
  = (0 : Int) ∧ (0 : Int) = (0 : Int) ∧ True) ∧ True) ∧ (decide ((64 : Int) < (↑(DX.m x) : Int)) = false → (∃ (x' : DX), R true x' ∧ x'.2 + (1 : Nat) ≤ x.2 ∧ true = true ∧ ((0 : Nat)
  = (0 : Nat) ∧ False ∧ (0 : Nat) = (0 : Nat) ∧ True) ∧ (List.getD (blkF [List.getD (DX.H x) (0 : Nat) (0 : Int), List.getD (DX.H x) (1 : Nat) (0 : Int), List.getD (DX.H x) (2 : Nat)
  (0 : Int), List.getD (DX.H x) (3 : Nat) (0 : Int), List.getD (DX.H x) (4 : Nat) (0 : Int), List.getD (DX.H x) (5 : Nat) (0 : Int), List.getD (DX.H x) (6 : Nat) (0 : Int), List.getD
  (DX.H x) (7 : Nat) (0 : Int)] (List.take (Int.toNat (64 : Int)) (List.drop (DX.n x) (DX.D x_2)))) (0 : Nat) (0 : Int) = List.getD (DX.H x') (0 : Nat) (0 : Int) ∧ List.getD (blkF
  [List.getD (DX.H x) (0 : Nat) (0 : Int), List.getD (DX.H x) (1 : Nat) (0 : Int), List.getD (DX.H x) (2 : Nat) (0 : Int), List.getD (DX.H x) (3 : Nat) (0 : Int), List.getD (DX.H x)
  (4 : Nat) (0 : Int), List.getD (DX.H x) (5 : Nat) (0 : Int), List.getD (DX.H x) (6 : Nat) (0 : Int), List.getD (DX.H x) (7 : Nat) (0 : Int)] (List.take (Int.toNat (64 : Int))
  (List.drop (DX.n x) (DX.D x_2)))) (1 : Nat) (0 : Int) = List.getD (DX.H x') (1 : Nat) (0 : Int) ∧ List.getD (blkF [List.getD (DX.H x) (0 : Nat) (0 : Int), List.getD (DX.H x) (1 :
  Nat) (0 : Int), List.getD (DX.H x) (2 : Nat) (0 : Int), List.getD (DX.H x) (3 : Nat) (0 : Int), List.getD (DX.H x) (4 : Nat) (0 : Int), List.getD (DX.H x) (5 : Nat) (0 : Int),
  List.getD (DX.H x) (6 : Nat) (0 : Int), List.getD (DX.H x) (7 : Nat) (0 : Int)] (List.take (Int.toNat (64 : Int)) (List.drop (DX.n x) (DX.D x_2)))) (2 : Nat) (0 : Int) = List.getD
  (DX.H x') (2 : Nat) (0 : Int) ∧ List.getD (blkF [List.getD (DX.H x) (0 : Nat) (0 : Int), List.getD (DX.H x) (1 : Nat) (0 : Int), List.getD (DX.H x) (2 : Nat) (0 : Int), List.getD
  (DX.H x) (3 : Nat) (0 : Int), List.getD (DX.H x) (4 : Nat) (0 : Int), List.getD (DX.H x) (5 : Nat) (0 : Int), List.getD (DX.H x) (6 : Nat) (0 : Int), List.getD (DX.H x) (7 : Nat)
  (0 : Int)] (List.take (Int.toNat (64 : Int)) (List.drop (DX.n x) (DX.D x_2)))) (3 : Nat) (0 : Int) = List.getD (DX.H x') (3 : Nat) (0 : Int) ∧ List.getD (blkF [List.getD (DX.H x)
  (0 : Nat) (0 : Int), List.getD (DX.H x) (1 : Nat) (0 : Int), List.getD (DX.H x) (2 : Nat) (0 : Int), List.getD (DX.H x) (3 : Nat) (0 : Int), List.getD (DX.H x) (4 : Nat) (0 : Int),
  List.getD (DX.H x) (5 : Nat) (0 : Int), List.getD (DX.H x) (6 : Nat) (0 : Int), List.getD (DX.H x) (7 : Nat) (0 : Int)] (List.take (Int.toNat (64 : Int)) (List.drop (DX.n x) (DX.D
  x_2)))) (4 : Nat) (0 : Int) = List.getD (DX.H x') (4 : Nat) (0 : Int) ∧ List.getD (blkF [List.getD (DX.H x) (0 : Nat) (0 : Int), List.getD (DX.H x) (1 : Nat) (0 : Int), List.getD
  (DX.H x) (2 : Nat) (0 : Int), List.getD (DX.H x) (3 : Nat) (0 : Int), List.getD (DX.H x) (4 : Nat) (0 : Int), List.getD (DX.H x) (5 : Nat) (0 : Int), List.getD (DX.H x) (6 : Nat)
  (0 : Int), List.getD (DX.H x) (7 : Nat) (0 : Int)] (List.take (Int.toNat (64 : Int)) (List.drop (DX.n x) (DX.D x_2)))) (5 : Nat) (0 : Int) = List.getD (DX.H x') (5 : Nat) (0 : Int)
  ∧ List.getD (blkF [List.getD (DX.H x) (0 : Nat) (0 : Int), List.getD (DX.H x) (1 : Nat) (0 : Int), List.getD (DX.H x) (2 : Nat) (0 : Int), List.getD (DX.H x) (3 : Nat) (0 : Int),
  List.getD (DX.H x) (4 : Nat) (0 : Int), List.getD (DX.H x) (5 : Nat) (0 : Int), List.getD (DX.H x) (6 : Nat) (0 : Int), List.getD (DX.H x) (7 : Nat) (0 : Int)] (List.take
  (Int.toNat (64 : Int)) (List.drop (DX.n x) (DX.D x_2)))) (6 : Nat) (0 : Int) = List.getD (DX.H x') (6 : Nat) (0 : Int) ∧ List.getD (blkF [List.getD (DX.H x) (0 : Nat) (0 : Int),
  List.getD (DX.H x) (1 : Nat) (0 : Int), List.getD (DX.H x) (2 : Nat) (0 : Int), List.getD (DX.H x) (3 : Nat) (0 : Int), List.getD (DX.H x) (4 : Nat) (0 : Int), List.getD (DX.H x)
  (5 : Nat) (0 : Int), List.getD (DX.H x) (6 : Nat) (0 : Int), List.getD (DX.H x) (7 : Nat) (0 : Int)] (List.take (Int.toNat (64 : Int)) (List.drop (DX.n x) (DX.D x_2)))) (7 : Nat)
  (0 : Int) = List.getD (DX.H x') (7 : Nat) (0 : Int) ∧ True) ∧ (DX.D x_2 = DX.D x_2 ∧ mx2 (DX.fz x) (List.length (DX.D x_2)) = DX.fz x') ∧ ((0 : Int) = (0 : Int) ∧ (0 : Int) = (0 :
  Int) ∧ (0 : Int) = (0 : Int) ∧ (0 : Int) = (0 : Int) ∧ (0 : Int) = (0 : Int) ∧ (0 : Int) = (0 : Int) ∧ (0 : Int) = (0 : Int) ∧ (0 : Int) = (0 : Int) ∧ (0 : Int) = (0 : Int) ∧ (0 :
  Int) = (0 : Int) ∧ (0 : Int) = (0 : Int) ∧ (0 : Int) = (0 : Int) ∧ (0 : Int) = (0 : Int) ∧ (0 : Int) = (0 : Int) ∧ (0 : Int) = (0 : Int) ∧ (0 : Int) = (0 : Int) ∧ (0 : Int) = (0 :
  Int) ∧ (0 : Int) = (0 : Int) ∧ (0 : Int) = (0 : Int) ∧ (0 : Int) = (0 : Int) ∧ (0 : Int) = (0 : Int) ∧ (0 : Int) = (0 : Int) ∧ (0 : Int) = (0 : Int) ∧ (0 : Int) = (0 : Int) ∧ (0 :
  Int) = (0 : Int) ∧ (0 : Int) = (0 : Int) ∧ (0 : Int) = (0 : Int) ∧ (0 : Int) = (0 : Int) ∧ (0 : Int) = (0 : Int) ∧ (0 : Int) = (0 : Int) ∧ (0 : Int) = (0 : Int) ∧ (0 : Int) = (0 :
  Int) ∧ True) ∧ True) ∨ ∃ (x' : DX), R false x' ∧ x'.2 + (1 : Nat) ≤ x.2 ∧ true = true ∧ ((0 : Nat) = (0 : Nat) ∧ (([] : List Int) = ([] : List Int) ∧ (false = true → false = true))
  ∧ (0 : Nat) = (0 : Nat) ∧ True) ∧ (List.getD (blkF [List.getD (DX.H x) (0 : Nat) (0 : Int), List.getD (DX.H x) (1 : Nat) (0 : Int), List.getD (DX.H x) (2 : Nat) (0 : Int),
  List.getD (DX.H x) (3 : Nat) (0 : Int), List.getD (DX.H x) (4 : Nat) (0 : Int), List.getD (DX.H x) (5 : Nat) (0 : Int), List.getD (DX.H x) (6 : Nat) (0 : Int), List.getD (DX.H x)
  (7 : Nat) (0 : Int)] (List.take (Int.toNat (64 : Int)) (List.drop (DX.n x) (DX.D x_2)))) (0 : Nat) (0 : Int) = List.getD (DX.H x') (0 : Nat) (0 : Int) ∧ List.getD (blkF [List.getD
  (DX.H x) (0 : Nat) (0 : Int), List.getD (DX.H x) (1 : Nat) (0 : Int), List.getD (DX.H x) (2 : Nat) (0 : Int), List.getD (DX.H x) (3 : Nat) (0 : Int), List.getD (DX.H x) (4 : Nat)
  (0 : Int), List.getD (DX.H x) (5 : Nat) (0 : Int), List.getD (DX.H x) (6 : Nat) (0 : Int), List.getD (DX.H x) (7 : Nat) (0 : Int)] (List.take (Int.toNat (64 : Int)) (List.drop
  (DX.n x) (DX.D x_2)))) (1 : Nat) (0 : Int) = List.getD (DX.H x') (1 : Nat) (0 : Int) ∧ List.getD (blkF [List.getD (DX.H x) (0 : Nat) (0 : Int), List.getD (DX.H x) (1 : Nat) (0 :
  Int), List.getD (DX.H x) (2 : Nat) (0 : Int), List.getD (DX.H x) (3 : Nat) (0 : Int), List.getD (DX.H x) (4 : Nat) (0 : Int), List.getD (DX.H x) (5 : Nat) (0 : Int), List.getD
  (DX.H x) (6 : Nat) (0 : Int), List.getD (DX.H x) (7 : Nat) (0 : Int)] (List.take (Int.toNat (64 : Int)) (List.drop (DX.n x) (DX.D x_2)))) (2 : Nat) (0 : Int) = List.getD (DX.H x')
  (2 : Nat) (0 : Int) ∧ List.getD (blkF [List.getD (DX.H x) (0 : Nat) (0 : Int), List.getD (DX.H x) (1 : Nat) (0 : Int), List.getD (DX.H x) (2 : Nat) (0 : Int), List.getD (DX.H x) (3
  : Nat) (0 : Int), List.getD (DX.H x) (4 : Nat) (0 : Int), List.getD (DX.H x) (5 : Nat) (0 : Int), List.getD (DX.H x) (6 : Nat) (0 : Int), List.getD (DX.H x) (7 : Nat) (0 : Int)]
  (List.take (Int.toNat (64 : Int)) (List.drop (DX.n x) (DX.D x_2)))) (3 : Nat) (0 : Int) = List.getD (DX.H x') (3 : Nat) (0 : Int) ∧ List.getD (blkF [List.getD (DX.H x) (0 : Nat) (0
  : Int), List.getD (DX.H x) (1 : Nat) (0 : Int), List.getD (DX.H x) (2 : Nat) (0 : Int), List.getD (DX.H x) (3 : Nat) (0 : Int), List.getD (DX.H x) (4 : Nat) (0 : Int), List.getD
  (DX.H x) (5 : Nat) (0 : Int), List.getD (DX.H x) (6 : Nat) (0 : Int), List.getD (DX.H x) (7 : Nat) (0 : Int)] (List.take (Int.toNat (64 : Int)) (List.drop (DX.n x) (DX.D x_2)))) (4
  : Nat) (0 : Int) = List.getD (DX.H x') (4 : Nat) (0 : Int) ∧ List.getD (blkF [List.getD (DX.H x) (0 : Nat) (0 : Int), List.getD (DX.H x) (1 : Nat) (0 : Int), List.getD (DX.H x) (2
  : Nat) (0 : Int), List.getD (DX.H x) (3 : Nat) (0 : Int), List.getD (DX.H x) (4 : Nat) (0 : Int), List.getD (DX.H x) (5 : Nat) (0 : Int), List.getD (DX.H x) (6 : Nat) (0 : Int),
  List.getD (DX.H x) (7 : Nat) (0 : Int)] (List.take (Int.toNat (64 : Int)) (List.drop (DX.n x) (DX.D x_2)))) (5 : Nat) (0 : Int) = List.getD (DX.H x') (5 : Nat) (0 : Int) ∧
  List.getD (blkF [List.getD (DX.H x) (0 : Nat) (0 : Int), List.getD (DX.H x) (1 : Nat) (0 : Int), List.getD (DX.H x) (2 : Nat) (0 : Int), List.getD (DX.H x) (3 : Nat) (0 : Int),
  List.getD (DX.H x) (4 : Nat) (0 : Int), List.getD (DX.H x) (5 : Nat) (0 : Int), List.getD (DX.H x) (6 : Nat) (0 : Int), List.getD (DX.H x) (7 : Nat) (0 : Int)] (List.take
  (Int.toNat (64 : Int)) (List.drop (DX.n x) (DX.D x_2)))) (6 : Nat) (0 : Int) = List.getD (DX.H x') (6 : Nat) (0 : Int) ∧ List.getD (blkF [List.getD (DX.H x) (0 : Nat) (0 : Int),
  List.getD (DX.H x) (1 : Nat) (0 : Int), List.getD (DX.H x) (2 : Nat) (0 : Int), List.getD (DX.H x) (3 : Nat) (0 : Int), List.getD (DX.H x) (4 : Nat) (0 : Int), List.getD (DX.H x)
  (5 : Nat) (0 : Int), List.getD (DX.H x) (6 : Nat) (0 : Int), List.getD (DX.H x) (7 : Nat) (0 : Int)] (List.take (Int.toNat (64 : Int)) (List.drop (DX.n x) (DX.D x_2)))) (7 : Nat)
  (0 : Int) = List.getD (DX.H x') (7 : Nat) (0 : Int) ∧ True) ∧ ((0 : Int) = (0 : Int) ∧ (0 : Int) = (0 : Int) ∧ (0 : Int) = (0 : Int) ∧ (0 : Int) = (0 : Int) ∧ (0 : Int) = (0 : Int)
  ∧ (0 : Int) = (0 : Int) ∧ (0 : Int) = (0 : Int) ∧ (0 : Int) = (0 : Int) ∧ (0 : Int) = (0 : Int) ∧ (0 : Int) = (0 : Int) ∧ (0 : Int) = (0 : Int) ∧ (0 : Int) = (0 : Int) ∧ (0 : Int)
  = (0 : Int) ∧ (0 : Int) = (0 : Int) ∧ (0 : Int) = (0 : Int) ∧ (0 : Int) = (0 : Int) ∧ (0 : Int) = (0 : Int) ∧ (0 : Int) = (0 : Int) ∧ (0 : Int) = (0 : Int) ∧ (0 : Int) = (0 : Int)
  ∧ (0 : Int) = (0 : Int) ∧ (0 : Int) = (0 : Int) ∧ (0 : Int) = (0 : Int) ∧ (0 : Int) = (0 : Int) ∧ (0 : Int) = (0 : Int) ∧ (0 : Int) = (0 : Int) ∧ (0 : Int) = (0 : Int) ∧ (0 : Int)
  = (0 : Int) ∧ (0 : Int) = (0 : Int) ∧ (0 : Int) = (0 : Int) ∧ (0 : Int) = (0 : Int) ∧ (0 : Int) = (0 : Int) ∧ True) ∧ True)) ∧ (decide ((↑(DX.m x) : Int) > (0 : Int)) = false → wr
  IntKind.u8 (Int.fdiv (List.getD (DX.H x) (0 : Nat) (0 : Int)) ((2 : Int) ^ min (Int.toNat (24 : Int)) (IntKind.bits IntKind.u32))) = List.getD d (0 : Nat) (0 : Int) ∧ wr IntKind.u8
  (Int.fdiv (List.getD (DX.H x) (0 : Nat) (0 : Int)) ((2 : Int) ^ min (Int.toNat (16 : Int)) (IntKind.bits IntKind.u32))) = List.getD d (1 : Nat) (0 : Int) ∧ wr IntKind.u8 (Int.fdiv
  (List.getD (DX.H x) (0 : Nat) (0 : Int)) ((2 : Int) ^ min (Int.toNat (8 : Int)) (IntKind.bits IntKind.u32))) = List.getD d (2 : Nat) (0 : Int) ∧ wr IntKind.u8 (Int.fdiv (List.getD
  (DX.H x) (0 : Nat) (0 : Int)) ((2 : Int) ^ min (Int.toNat (0 : Int)) (IntKind.bits IntKind.u32))) = List.getD d (3 : Nat) (0 : Int) ∧ wr IntKind.u8 (Int.fdiv (List.getD (DX.H x) (1
  : Nat) (0 : Int)) ((2 : Int) ^ min (Int.toNat (24 : Int)) (IntKind.bits IntKind.u32))) = List.getD d (4 : Nat) (0 : Int) ∧ wr IntKind.u8 (Int.fdiv (List.getD (DX.H x) (1 : Nat) (0
  : Int)) ((2 : Int) ^ min (Int.toNat (16 : Int)) (IntKind.bits IntKind.u32))) = List.getD d (5 : Nat) (0 : Int) ∧ wr IntKind.u8 (Int.fdiv (List.getD (DX.H x) (1 : Nat) (0 : Int))
  ((2 : Int) ^ min (Int.toNat (8 : Int)) (IntKind.bits IntKind.u32))) = List.getD d (6 : Nat) (0 : Int) ∧ wr IntKind.u8 (Int.fdiv (List.getD (DX.H x) (1 : Nat) (0 : Int)) ((2 : Int)
  ^ min (Int.toNat (0 : Int)) (IntKind.bits IntKind.u32))) = List.getD d (7 : Nat) (0 : Int) ∧ wr IntKind.u8 (Int.fdiv (List.getD (DX.H x) (2 : Nat) (0 : Int)) ((2 : Int) ^ min
  (Int.toNat (24 : Int)) (IntKind.bits IntKind.u32))) = List.getD d (8 : Nat) (0 : Int) ∧ wr IntKind.u8 (Int.fdiv (List.getD (DX.H x) (2 : Nat) (0 : Int)) ((2 : Int) ^ min (Int.toNat
  (16 : Int)) (IntKind.bits IntKind.u32))) = List.getD d (9 : Nat) (0 : Int) ∧ wr IntKind.u8 (Int.fdiv (List.getD (DX.H x) (2 : Nat) (0 : Int)) ((2 : Int) ^ min (Int.toNat (8 : Int))
  (IntKind.bits IntKind.u32))) = List.getD d (10 : Nat) (0 : Int) ∧ wr IntKind.u8 (Int.fdiv (List.getD (DX.H x) (2 : Nat) (0 : Int)) ((2 : Int) ^ min (Int.toNat (0 : Int))
  (IntKind.bits IntKind.u32))) = List.getD d (11 : Nat) (0 : Int) ∧ wr IntKind.u8 (Int.fdiv (List.getD (DX.H x) (3 : Nat) (0 : Int)) ((2 : Int) ^ min (Int.toNat (24 : Int))
  (IntKind.bits IntKind.u32))) = List.getD d (12 : Nat) (0 : Int) ∧ wr IntKind.u8 (Int.fdiv (List.getD (DX.H x) (3 : Nat) (0 : Int)) ((2 : Int) ^ min (Int.toNat (16 : Int))
  (IntKind.bits IntKind.u32))) = List.getD d (13 : Nat) (0 : Int) ∧ wr IntKind.u8 (Int.fdiv (List.getD (DX.H x) (3 : Nat) (0 : Int)) ((2 : Int) ^ min (Int.toNat (8 : Int))
  (IntKind.bits IntKind.u32))) = List.getD d (14 : Nat) (0 : Int) ∧ wr IntKind.u8 (Int.fdiv (List.getD (DX.H x) (3 : Nat) (0 : Int)) ((2 : Int) ^ min (Int.toNat (0 : Int))
  (IntKind.bits IntKind.u32))) = List.getD d (15 : Nat) (0 : Int) ∧ wr IntKind.u8 (Int.fdiv (List.getD (DX.H x) (4 : Nat) (0 : Int)) ((2 : Int) ^ min (Int.toNat (24 : Int))
  (IntKind.bits IntKind.u32))) = List.getD d (16 : Nat) (0 : Int) ∧ wr IntKind.u8 (Int.fdiv (List.getD (DX.H x) (4 : Nat) (0 : Int)) ((2 : Int) ^ min (Int.toNat (16 : Int))
  (IntKind.bits IntKind.u32))) = List.getD d (17 : Nat) (0 : Int) ∧ wr IntKind.u8 (Int.fdiv (List.getD (DX.H x) (4 : Nat) (0 : Int)) ((2 : Int) ^ min (Int.toNat (8 : Int))
  (IntKind.bits IntKind.u32))) = List.getD d (18 : Nat) (0 : Int) ∧ wr IntKind.u8 (Int.fdiv (List.getD (DX.H x) (4 : Nat) (0 : Int)) ((2 : Int) ^ min (Int.toNat (0 : Int))
  (IntKind.bits IntKind.u32))) = List.getD d (19 : Nat) (0 : Int) ∧ wr IntKind.u8 (Int.fdiv (List.getD (DX.H x) (5 : Nat) (0 : Int)) ((2 : Int) ^ min (Int.toNat (24 : Int))
  (IntKind.bits IntKind.u32))) = List.getD d (20 : Nat) (0 : Int) ∧ wr IntKind.u8 (Int.fdiv (List.getD (DX.H x) (5 : Nat) (0 : Int)) ((2 : Int) ^ min (Int.toNat (16 : Int))
  (IntKind.bits IntKind.u32))) = List.getD d (21 : Nat) (0 : Int) ∧ wr IntKind.u8 (Int.fdiv (List.getD (DX.H x) (5 : Nat) (0 : Int)) ((2 : Int) ^ min (Int.toNat (8 : Int))
  (IntKind.bits IntKind.u32))) = List.getD d (22 : Nat) (0 : Int) ∧ wr IntKind.u8 (Int.fdiv (List.getD (DX.H x) (5 : Nat) (0 : Int)) ((2 : Int) ^ min (Int.toNat (0 : Int))
  (IntKind.bits IntKind.u32))) = List.getD d (23 : Nat) (0 : Int) ∧ wr IntKind.u8 (Int.fdiv (List.getD (DX.H x) (6 : Nat) (0 : Int)) ((2 : Int) ^ min (Int.toNat (24 : Int))
  (IntKind.bits IntKind.u32))) = List.getD d (24 : Nat) (0 : Int) ∧ wr IntKind.u8 (Int.fdiv (List.getD (DX.H x) (6 : Nat) (0 : Int)) ((2 : Int) ^ min (Int.toNat (16 : Int))
  (IntKind.bits IntKind.u32))) = List.getD d (25 : Nat) (0 : Int) ∧ wr IntKind.u8 (Int.fdiv (List.getD (DX.H x) (6 : Nat) (0 : Int)) ((2 : Int) ^ min (Int.toNat (8 : Int))
  (IntKind.bits IntKind.u32))) = List.getD d (26 : Nat) (0 : Int) ∧ wr IntKind.u8 (Int.fdiv (List.getD (DX.H x) (6 : Nat) (0 : Int)) ((2 : Int) ^ min (Int.toNat (0 : Int))
  (IntKind.bits IntKind.u32))) = List.getD d (27 : Nat) (0 : Int) ∧ wr IntKind.u8 (Int.fdiv (List.getD (DX.H x) (7 : Nat) (0 : Int)) ((2 : Int) ^ min (Int.toNat (24 : Int))
  (IntKind.bits IntKind.u32))) = List.getD d (28 : Nat) (0 : Int) ∧ wr IntKind.u8 (Int.fdiv (List.getD (DX.H x) (7 : Nat) (0 : Int)) ((2 : Int) ^ min (Int.toNat (16 : Int))
  (IntKind.bits IntKind.u32))) = List.getD d (29 : Nat) (0 : Int) ∧ wr IntKind.u8 (Int.fdiv (List.getD (DX.H x) (7 : Nat) (0 : Int)) ((2 : Int) ^ min (Int.toNat (8 : Int))
  (IntKind.bits IntKind.u32))) = List.getD d (30 : Nat) (0 : Int) ∧ wr IntKind.u8 (Int.fdiv (List.getD (DX.H x) (7 : Nat) (0 : Int)) ((2 : Int) ^ min (Int.toNat (0 : Int))
  (IntKind.bits IntKind.u32))) = List.getD d (31 : Nat) (0 : Int) ∧ True)) ∧ ∀ (x : DX), R false x → (decide ((↑(0 : Nat) : Int) > (0 : Int)) = true → ((0 : Int) ≤ (64 : Int) ∧ (64 :
  Int) ≤ (↑(0 : Nat) : Int)) ∧ ((8 : Nat) = (8 : Nat) ∧ List.length (List.take (Int.toNat (64 : Int)) ([] : List Int)) = (64 : Nat)) ∧ ((0 : Int) ≤ (64 : Int) ∧ (64 : Int) ≤ (↑(0 :
  Nat) : Int)) ∧ ((∃ (x' : DX), R true x' ∧ x'.2 + (1 : Nat) ≤ x.2 ∧ true = true ∧ ((0 : Nat) = (0 : Nat) ∧ False ∧ (0 : Nat) = (0 : Nat) ∧ True) ∧ (List.getD (blkF [List.getD (DX.H
  x) (0 : Nat) (0 : Int), List.getD (DX.H x) (1 : Nat) (0 : Int), List.getD (DX.H x) (2 : Nat) (0 : Int), List.getD (DX.H x) (3 : Nat) (0 : Int), List.getD (DX.H x) (4 : Nat) (0 :
  Int), List.getD (DX.H x) (5 : Nat) (0 : Int), List.getD (DX.H x) (6 : Nat) (0 : Int), List.getD (DX.H x) (7 : Nat) (0 : Int)] (List.take (Int.toNat (64 : Int)) ([] : List Int))) (0
  : Nat) (0 : Int) = List.getD (DX.H x') (0 : Nat) (0 : Int) ∧ List.getD (blkF [List.getD (DX.H x) (0 : Nat) (0 : Int), List.getD (DX.H x) (1 : Nat) (0 : Int), List.getD (DX.H x) (2
  : Nat) (0 : Int), List.getD (DX.H x) (3 : Nat) (0 : Int), List.getD (DX.H x) (4 : Nat) (0 : Int), List.getD (DX.H x) (5 : Nat) (0 : Int), List.getD (DX.H x) (6 : Nat) (0 : Int),
  List.getD (DX.H x) (7 : Nat) (0 : Int)] (List.take (Int.toNat (64 : Int)) ([] : List Int))) (1 : Nat) (0 : Int) = List.getD (DX.H x') (1 : Nat) (0 : Int) ∧ List.getD (blkF
  [List.getD (DX.H x) (0 : Nat) (0 : Int), List.getD (DX.H x) (1 : Nat) (0 : Int), List.getD (DX.H x) (2 : Nat) (0 : Int), List.getD (DX.H x) (3 : Nat) (0 : Int), List.getD (DX.H x)
  (4 : Nat) (0 : Int), List.getD (DX.H x) (5 : Nat) (0 : Int), List.getD (DX.H x) (6 : Nat) (0 : Int), List.getD (DX.H x) (7 : Nat) (0 : Int)] (List.take (Int.toNat (64 : Int)) ([] :
  List Int))) (2 : Nat) (0 : Int) = List.getD (DX.H x') (2 : Nat) (0 : Int) ∧ List.getD (blkF [List.getD (DX.H x) (0 : Nat) (0 : Int), List.getD (DX.H x) (1 : Nat) (0 : Int),
  List.getD (DX.H x) (2 : Nat) (0 : Int), List.getD (DX.H x) (3 : Nat) (0 : Int), List.getD (DX.H x) (4 : Nat) (0 : Int), List.getD (DX.H x) (5 : Nat) (0 : Int), List.getD (DX.H x)
  (6 : Nat) (0 : Int), List.getD (DX.H x) (7 : Nat) (0 : Int)] (List.take (Int.toNat (64 : Int)) ([] : List Int))) (3 : Nat) (0 : Int) = List.getD (DX.H x') (3 : Nat) (0 : Int) ∧
  List.getD (blkF [List.getD (DX.H x) (0 : Nat) (0 : Int), List.getD (DX.H x) (1 : Nat) (0 : Int), List.getD (DX.H x) (2 : Nat) (0 : Int), List.getD (DX.H x) (3 : Nat) (0 : Int),
  List.getD (DX.H x) (4 : Nat) (0 : Int), List.getD (DX.H x) (5 : Nat) (0 : Int), List.getD (DX.H x) (6 : Nat) (0 : Int), List.getD (DX.H x) (7 : Nat) (0 : Int)] (List.take
  (Int.toNat (64 : Int)) ([] : List Int))) (4 : Nat) (0 : Int) = List.getD (DX.H x') (4 : Nat) (0 : Int) ∧ List.getD (blkF [List.getD (DX.H x) (0 : Nat) (0 : Int), List.getD (DX.H x)
  (1 : Nat) (0 : Int), List.getD (DX.H x) (2 : Nat) (0 : Int), List.getD (DX.H x) (3 : Nat) (0 : Int), List.getD (DX.H x) (4 : Nat) (0 : Int), List.getD (DX.H x) (5 : Nat) (0 : Int),
  List.getD (DX.H x) (6 : Nat) (0 : Int), List.getD (DX.H x) (7 : Nat) (0 : Int)] (List.take (Int.toNat (64 : Int)) ([] : List Int))) (5 : Nat) (0 : Int) = List.getD (DX.H x') (5 :
  Nat) (0 : Int) ∧ List.getD (blkF [List.getD (DX.H x) (0 : Nat) (0 : Int), List.getD (DX.H x) (1 : Nat) (0 : Int), List.getD (DX.H x) (2 : Nat) (0 : Int), List.getD (DX.H x) (3 :
  Nat) (0 : Int), List.getD (DX.H x) (4 : Nat) (0 : Int), List.getD (DX.H x) (5 : Nat) (0 : Int), List.getD (DX.H x) (6 : Nat) (0 : Int), List.getD (DX.H x) (7 : Nat) (0 : Int)]
  (List.take (Int.toNat (64 : Int)) ([] : List Int))) (6 : Nat) (0 : Int) = List.getD (DX.H x') (6 : Nat) (0 : Int) ∧ List.getD (blkF [List.getD (DX.H x) (0 : Nat) (0 : Int),
  List.getD (DX.H x) (1 : Nat) (0 : Int), List.getD (DX.H x) (2 : Nat) (0 : Int), List.getD (DX.H x) (3 : Nat) (0 : Int), List.getD (DX.H x) (4 : Nat) (0 : Int), List.getD (DX.H x)
  (5 : Nat) (0 : Int), List.getD (DX.H x) (6 : Nat) (0 : Int), List.getD (DX.H x) (7 : Nat) (0 : Int)] (List.take (Int.toNat (64 : Int)) ([] : List Int))) (7 : Nat) (0 : Int) =
  List.getD (DX.H x') (7 : Nat) (0 : Int) ∧ True) ∧ False ∧ ((0 : Int) = (0 : Int) ∧ (0 : Int) = (0 : Int) ∧ (0 : Int) = (0 : Int) ∧ (0 : Int) = (0 : Int) ∧ (0 : Int) = (0 : Int) ∧
  (0 : Int) = (0 : Int) ∧ (0 : Int) = (0 : Int) ∧ (0 : Int) = (0 : Int) ∧ (0 : Int) = (0 : Int) ∧ (0 : Int) = (0 : Int) ∧ (0 : Int) = (0 : Int) ∧ (0 : Int) = (0 : Int) ∧ (0 : Int) =
  (0 : Int) ∧ (0 : Int) = (0 : Int) ∧ (0 : Int) = (0 : Int) ∧ (0 : Int) = (0 : Int) ∧ (0 : Int) = (0 : Int) ∧ (0 : Int) = (0 : Int) ∧ (0 : Int) = (0 : Int) ∧ (0 : Int) = (0 : Int) ∧
  (0 : Int) = (0 : Int) ∧ (0 : Int) = (0 : Int) ∧ (0 : Int) = (0 : Int) ∧ (0 : Int) = (0 : Int) ∧ (0 : Int) = (0 : Int) ∧ (0 : Int) = (0 : Int) ∧ (0 : Int) = (0 : Int) ∧ (0 : Int) =
  (0 : Int) ∧ (0 : Int) = (0 : Int) ∧ (0 : Int) = (0 : Int) ∧ (0 : Int) = (0 : Int) ∧ (0 : Int) = (0 : Int) ∧ True) ∧ True) ∨ ∃ (x' : DX), R false x' ∧ x'.2 + (1 : Nat) ≤ x.2 ∧ true
  = true ∧ ((0 : Nat) = (0 : Nat) ∧ (List.drop (Int.toNat (64 : Int)) ([] : List Int) = ([] : List Int) ∧ (false = true → false = true)) ∧ (0 : Nat) = (0 : Nat) ∧ True) ∧ (List.getD
  (blkF [List.getD (DX.H x) (0 : Nat) (0 : Int), List.getD (DX.H x) (1 : Nat) (0 : Int), List.getD (DX.H x) (2 : Nat) (0 : Int), List.getD (DX.H x) (3 : Nat) (0 : Int), List.getD
  (DX.H x) (4 : Nat) (0 : Int), List.getD (DX.H x) (5 : Nat) (0 : Int), List.getD (DX.H x) (6 : Nat) (0 : Int), List.getD (DX.H x) (7 : Nat) (0 : Int)] (List.take (Int.toNat (64 :
  Int)) ([] : List Int))) (0 : Nat) (0 : Int) = List.getD (DX.H x') (0 : Nat) (0 : Int) ∧ List.getD (blkF [List.getD (DX.H x) (0 : Nat) (0 : Int), List.getD (DX.H x) (1 : Nat) (0 :
  Int), List.getD (DX.H x) (2 : Nat) (0 : Int), List.getD (DX.H x) (3 : Nat) (0 : Int), List.getD (DX.H x) (4 : Nat) (0 : Int), List.getD (DX.H x) (5 : Nat) (0 : Int), List.getD
  (DX.H x) (6 : Nat) (0 : Int), List.getD (DX.H x) (7 : Nat) (0 : Int)] (List.take (Int.toNat (64 : Int)) ([] : List Int))) (1 : Nat) (0 : Int) = List.getD (DX.H x') (1 : Nat) (0 :
  Int) ∧ List.getD (blkF [List.getD (DX.H x) (0 : Nat) (0 : Int), List.getD (DX.H x) (1 : Nat) (0 : Int), List.getD (DX.H x) (2 : Nat) (0 : Int), List.getD (DX.H x) (3 : Nat) (0 :
  Int), List.getD (DX.H x) (4 : Nat) (0 : Int), List.getD (DX.H x) (5 : Nat) (0 : Int), List.getD (DX.H x) (6 : Nat) (0 : Int), List.getD (DX.H x) (7 : Nat) (0 : Int)] (List.take
  (Int.toNat (64 : Int)) ([] : List Int))) (2 : Nat) (0 : Int) = List.getD (DX.H x') (2 : Nat) (0 : Int) ∧ List.getD (blkF [List.getD (DX.H x) (0 : Nat) (0 : Int), List.getD (DX.H x)
  (1 : Nat) (0 : Int), List.getD (DX.H x) (2 : Nat) (0 : Int), List.getD (DX.H x) (3 : Nat) (0 : Int), List.getD (DX.H x) (4 : Nat) (0 : Int), List.getD (DX.H x) (5 : Nat) (0 : Int),
  List.getD (DX.H x) (6 : Nat) (0 : Int), List.getD (DX.H x) (7 : Nat) (0 : Int)] (List.take (Int.toNat (64 : Int)) ([] : List Int))) (3 : Nat) (0 : Int) = List.getD (DX.H x') (3 :
  Nat) (0 : Int) ∧ List.getD (blkF [List.getD (DX.H x) (0 : Nat) (0 : Int), List.getD (DX.H x) (1 : Nat) (0 : Int), List.getD (DX.H x) (2 : Nat) (0 : Int), List.getD (DX.H x) (3 :
  Nat) (0 : Int), List.getD (DX.H x) (4 : Nat) (0 : Int), List.getD (DX.H x) (5 : Nat) (0 : Int), List.getD (DX.H x) (6 : Nat) (0 : Int), List.getD (DX.H x) (7 : Nat) (0 : Int)]
  (List.take (Int.toNat (64 : Int)) ([] : List Int))) (4 : Nat) (0 : Int) = List.getD (DX.H x') (4 : Nat) (0 : Int) ∧ List.getD (blkF [List.getD (DX.H x) (0 : Nat) (0 : Int),
  List.getD (DX.H x) (1 : Nat) (0 : Int), List.getD (DX.H x) (2 : Nat) (0 : Int), List.getD (DX.H x) (3 : Nat) (0 : Int), List.getD (DX.H x) (4 : Nat) (0 : Int), List.getD (DX.H x)
  (5 : Nat) (0 : Int), List.getD (DX.H x) (6 : Nat) (0 : Int), List.getD (DX.H x) (7 : Nat) (0 : Int)] (List.take (Int.toNat (64 : Int)) ([] : List Int))) (5 : Nat) (0 : Int) =
  List.getD (DX.H x') (5 : Nat) (0 : Int) ∧ List.getD (blkF [List.getD (DX.H x) (0 : Nat) (0 : Int), List.getD (DX.H x) (1 : Nat) (0 : Int), List.getD (DX.H x) (2 : Nat) (0 : Int),
  List.getD (DX.H x) (3 : Nat) (0 : Int), List.getD (DX.H x) (4 : Nat) (0 : Int), List.getD (DX.H x) (5 : Nat) (0 : Int), List.getD (DX.H x) (6 : Nat) (0 : Int), List.getD (DX.H x)
  (7 : Nat) (0 : Int)] (List.take (Int.toNat (64 : Int)) ([] : List Int))) (6 : Nat) (0 : Int) = List.getD (DX.H x') (6 : Nat) (0 : Int) ∧ List.getD (blkF [List.getD (DX.H x) (0 :
  Nat) (0 : Int), List.getD (DX.H x) (1 : Nat) (0 : Int), List.getD (DX.H x) (2 : Nat) (0 : Int), List.getD (DX.H x) (3 : Nat) (0 : Int), List.getD (DX.H x) (4 : Nat) (0 : Int),
  List.getD (DX.H x) (5 : Nat) (0 : Int), List.getD (DX.H x) (6 : Nat) (0 : Int), List.getD (DX.H x) (7 : Nat) (0 : Int)] (List.take (Int.toNat (64 : Int)) ([] : List Int))) (7 :
  Nat) (0 : Int) = List.getD (DX.H x') (7 : Nat) (0 : Int) ∧ True) ∧ ((0 : Int) = (0 : Int) ∧ (0 : Int) = (0 : Int) ∧ (0 : Int) = (0 : Int) ∧ (0 : Int) = (0 : Int) ∧ (0 : Int) = (0 :
  Int) ∧ (0 : Int) = (0 : Int) ∧ (0 : Int) = (0 : Int) ∧ (0 : Int) = (0 : Int) ∧ (0 : Int) = (0 : Int) ∧ (0 : Int) = (0 : Int) ∧ (0 : Int) = (0 : Int) ∧ (0 : Int) = (0 : Int) ∧ (0 :
  Int) = (0 : Int) ∧ (0 : Int) = (0 : Int) ∧ (0 : Int) = (0 : Int) ∧ (0 : Int) = (0 : Int) ∧ (0 : Int) = (0 : Int) ∧ (0 : Int) = (0 : Int) ∧ (0 : Int) = (0 : Int) ∧ (0 : Int) = (0 :
  Int) ∧ (0 : Int) = (0 : Int) ∧ (0 : Int) = (0 : Int) ∧ (0 : Int) = (0 : Int) ∧ (0 : Int) = (0 : Int) ∧ (0 : Int) = (0 : Int) ∧ (0 : Int) = (0 : Int) ∧ (0 : Int) = (0 : Int) ∧ (0 :
  Int) = (0 : Int) ∧ (0 : Int) = (0 : Int) ∧ (0 : Int) = (0 : Int) ∧ (0 : Int) = (0 : Int) ∧ (0 : Int) = (0 : Int) ∧ True) ∧ True)) ∧ (decide ((↑(0 : Nat) : Int) > (0 : Int)) = false
  → wr IntKind.u8 (Int.fdiv (List.getD (DX.H x) (0 : Nat) (0 : Int)) ((2 : Int) ^ min (Int.toNat (24 : Int)) (IntKind.bits IntKind.u32))) = List.getD d (0 : Nat) (0 : Int) ∧ wr
  IntKind.u8 (Int.fdiv (List.getD (DX.H x) (0 : Nat) (0 : Int)) ((2 : Int) ^ min (Int.toNat (16 : Int)) (IntKind.bits IntKind.u32))) = List.getD d (1 : Nat) (0 : Int) ∧ wr IntKind.u8
  (Int.fdiv (List.getD (DX.H x) (0 : Nat) (0 : Int)) ((2 : Int) ^ min (Int.toNat (8 : Int)) (IntKind.bits IntKind.u32))) = List.getD d (2 : Nat) (0 : Int) ∧ wr IntKind.u8 (Int.fdiv
  (List.getD (DX.H x) (0 : Nat) (0 : Int)) ((2 : Int) ^ min (Int.toNat (0 : Int)) (IntKind.bits IntKind.u32))) = List.getD d (3 : Nat) (0 : Int) ∧ wr IntKind.u8 (Int.fdiv (List.getD
  (DX.H x) (1 : Nat) (0 : Int)) ((2 : Int) ^ min (Int.toNat (24 : Int)) (IntKind.bits IntKind.u32))) = List.getD d (4 : Nat) (0 : Int) ∧ wr IntKind.u8 (Int.fdiv (List.getD (DX.H x)
  (1 : Nat) (0 : Int)) ((2 : Int) ^ min (Int.toNat (16 : Int)) (IntKind.bits IntKind.u32))) = List.getD d (5 : Nat) (0 : Int) ∧ wr IntKind.u8 (Int.fdiv (List.getD (DX.H x) (1 : Nat)
  (0 : Int)) ((2 : Int) ^ min (Int.toNat (8 : Int)) (IntKind.bits IntKind.u32))) = List.getD d (6 : Nat) (0 : Int) ∧ wr IntKind.u8 (Int.fdiv (List.getD (DX.H x) (1 : Nat) (0 : Int))
  ((2 : Int) ^ min (Int.toNat (0 : Int)) (IntKind.bits IntKind.u32))) = List.getD d (7 : Nat) (0 : Int) ∧ wr IntKind.u8 (Int.fdiv (List.getD (DX.H x) (2 : Nat) (0 : Int)) ((2 : Int)
  ^ min (Int.toNat (24 : Int)) (IntKind.bits IntKind.u32))) = List.getD d (8 : Nat) (0 : Int) ∧ wr IntKind.u8 (Int.fdiv (List.getD (DX.H x) (2 : Nat) (0 : Int)) ((2 : Int) ^ min
  (Int.toNat (16 : Int)) (IntKind.bits IntKind.u32))) = List.getD d (9 : Nat) (0 : Int) ∧ wr IntKind.u8 (Int.fdiv (List.getD (DX.H x) (2 : Nat) (0 : Int)) ((2 : Int) ^ min (Int.toNat
  (8 : Int)) (IntKind.bits IntKind.u32))) = List.getD d (10 : Nat) (0 : Int) ∧ wr IntKind.u8 (Int.fdiv (List.getD (DX.H x) (2 : Nat) (0 : Int)) ((2 : Int) ^ min (Int.toNat (0 : Int))
  (IntKind.bits IntKind.u32))) = List.getD d (11 : Nat) (0 : Int) ∧ wr IntKind.u8 (Int.fdiv (List.getD (DX.H x) (3 : Nat) (0 : Int)) ((2 : Int) ^ min (Int.toNat (24 : Int))
  (IntKind.bits IntKind.u32))) = List.getD d (12 : Nat) (0 : Int) ∧ wr IntKind.u8 (Int.fdiv (List.getD (DX.H x) (3 : Nat) (0 : Int)) ((2 : Int) ^ min (Int.toNat (16 : Int))
  (IntKind.bits IntKind.u32))) = List.getD d (13 : Nat) (0 : Int) ∧ wr IntKind.u8 (Int.fdiv (List.getD (DX.H x) (3 : Nat) (0 : Int)) ((2 : Int) ^ min (Int.toNat (8 : Int))
  (IntKind.bits IntKind.u32))) = List.getD d (14 : Nat) (0 : Int) ∧ wr IntKind.u8 (Int.fdiv (List.getD (DX.H x) (3 : Nat) (0 : Int)) ((2 : Int) ^ min (Int.toNat (0 : Int))
  (IntKind.bits IntKind.u32))) = List.getD d (15 : Nat) (0 : Int) ∧ wr IntKind.u8 (Int.fdiv (List.getD (DX.H x) (4 : Nat) (0 : Int)) ((2 : Int) ^ min (Int.toNat (24 : Int))
  (IntKind.bits IntKind.u32))) = List.getD d (16 : Nat) (0 : Int) ∧ wr IntKind.u8 (Int.fdiv (List.getD (DX.H x) (4 : Nat) (0 : Int)) ((2 : Int) ^ min (Int.toNat (16 : Int))
  (IntKind.bits IntKind.u32))) = List.getD d (17 : Nat) (0 : Int) ∧ wr IntKind.u8 (Int.fdiv (List.getD (DX.H x) (4 : Nat) (0 : Int)) ((2 : Int) ^ min (Int.toNat (8 : Int))
  (IntKind.bits IntKind.u32))) = List.getD d (18 : Nat) (0 : Int) ∧ wr IntKind.u8 (Int.fdiv (List.getD (DX.H x) (4 : Nat) (0 : Int)) ((2 : Int) ^ min (Int.toNat (0 : Int))
  (IntKind.bits IntKind.u32))) = List.getD d (19 : Nat) (0 : Int) ∧ wr IntKind.u8 (Int.fdiv (List.getD (DX.H x) (5 : Nat) (0 : Int)) ((2 : Int) ^ min (Int.toNat (24 : Int))
  (IntKind.bits IntKind.u32))) = List.getD d (20 : Nat) (0 : Int) ∧ wr IntKind.u8 (Int.fdiv (List.getD (DX.H x) (5 : Nat) (0 : Int)) ((2 : Int) ^ min (Int.toNat (16 : Int))
  (IntKind.bits IntKind.u32))) = List.getD d (21 : Nat) (0 : Int) ∧ wr IntKind.u8 (Int.fdiv (List.getD (DX.H x) (5 : Nat) (0 : Int)) ((2 : Int) ^ min (Int.toNat (8 : Int))
  (IntKind.bits IntKind.u32))) = List.getD d (22 : Nat) (0 : Int) ∧ wr IntKind.u8 (Int.fdiv (List.getD (DX.H x) (5 : Nat) (0 : Int)) ((2 : Int) ^ min (Int.toNat (0 : Int))
  (IntKind.bits IntKind.u32))) = List.getD d (23 : Nat) (0 : Int) ∧ wr IntKind.u8 (Int.fdiv (List.getD (DX.H x) (6 : Nat) (0 : Int)) ((2 : Int) ^ min (Int.toNat (24 : Int))
  (IntKind.bits IntKind.u32))) = List.getD d (24 : Nat) (0 : Int) ∧ wr IntKind.u8 (Int.fdiv (List.getD (DX.H x) (6 : Nat) (0 : Int)) ((2 : Int) ^ min (Int.toNat (16 : Int))
  (IntKind.bits IntKind.u32))) = List.getD d (25 : Nat) (0 : Int) ∧ wr IntKind.u8 (Int.fdiv (List.getD (DX.H x) (6 : Nat) (0 : Int)) ((2 : Int) ^ min (Int.toNat (8 : Int))
  (IntKind.bits IntKind.u32))) = List.getD d (26 : Nat) (0 : Int) ∧ wr IntKind.u8 (Int.fdiv (List.getD (DX.H x) (6 : Nat) (0 : Int)) ((2 : Int) ^ min (Int.toNat (0 : Int))
  (IntKind.bits IntKind.u32))) = List.getD d (27 : Nat) (0 : Int) ∧ wr IntKind.u8 (Int.fdiv (List.getD (DX.H x) (7 : Nat) (0 : Int)) ((2 : Int) ^ min (Int.toNat (24 : Int))
  (IntKind.bits IntKind.u32))) = List.getD d (28 : Nat) (0 : Int) ∧ wr IntKind.u8 (Int.fdiv (List.getD (DX.H x) (7 : Nat) (0 : Int)) ((2 : Int) ^ min (Int.toNat (16 : Int))
  (IntKind.bits IntKind.u32))) = List.getD d (29 : Nat) (0 : Int) ∧ wr IntKind.u8 (Int.fdiv (List.getD (DX.H x) (7 : Nat) (0 : Int)) ((2 : Int) ^ min (Int.toNat (8 : Int))
  (IntKind.bits IntKind.u32))) = List.getD d (30 : Nat) (0 : Int) ∧ wr IntKind.u8 (Int.fdiv (List.getD (DX.H x) (7 : Nat) (0 : Int)) ((2 : Int) ^ min (Int.toNat (0 : Int))
  (IntKind.bits IntKind.u32))) = List.getD d (31 : Nat) (0 : Int) ∧ True))))
  ) := by kernel_rfl
--@end
end Go.Proofs.YtcaomfbcchemnaaDoor

/- Chapter 21: digests: sum. -/
namespace Go.Proofs.YtcaomfbcchemnaaDoor
open Go
set_option linter.unusedVariables false
set_option linter.unusedSimpArgs false
set_option maxHeartbeats 4000000
set_option maxRecDepth 10000
/-- how many zeros fill up -/
def zc (n : Nat) : Nat := (119 - n % 64) % 64
def len8 (n : Int) (j : Nat) : List Int := (List.range j).map fun k : Nat => wr .u8 (Int.fdiv n (2 ^ min (Int.toNat (56 - 8 * (k : Int))) 64))
def padF (m : List Int) : List Int := m ++ [128] ++ List.replicate (zc m.length) 0 ++ len8 (wr .u64 (wr .u64 (m.length : Int) * 8)) 8
noncomputable def blkAll : Nat → List Int → List Int → List Int
  | 0, h, _ => h
  | n + 1, h, m => blkAll n (blkF h (m.take 64)) (m.drop 64)
def H0 : List Int := [1779033703, 3144134277, 1013904242, 2773480762, 1359893119, 2600822924, 528734635, 1541459225]
def digF (H : List Int) : List Int := (List.range 32).map fun i => wr .u8 (Int.fdiv (H.getD (i / 4) 0) (2 ^ min (24 - 8 * (i % 4)) 32))
noncomputable def shaF (m : List Int) : List Int := digF (blkAll ((padF m).length / 64) H0 (padF m))
theorem len8_len (n : Int) (j : Nat) : (len8 n j).length = j := by simp [len8]
theorem len8_succ (n : Int) (j : Nat) : len8 n (j + 1) = len8 n j ++ [wr .u8 (Int.fdiv n (2 ^ min (Int.toNat (56 - 8 * (j : Int))) 64))] := by simp [len8, List.range_succ]
theorem pad_len (m : List Int) : (padF m).length % 64 = 0 := by
  simp only [padF, List.length_append, List.length_replicate, len8_len, List.length_cons, List.length_nil, zc]
  omega
theorem row8L {H : List Int} (h : H.length = 8) : [H.getD 0 0, H.getD 1 0, H.getD 2 0, H.getD 3 0, H.getD 4 0, H.getD 5 0, H.getD 6 0, H.getD 7 0] = H := all8 (P := fun H => [H.getD 0 0, H.getD 1 0, H.getD 2 0, H.getD 3 0, H.getD 4 0, H.getD 5 0, H.getD 6 0, H.getD 7 0] = H) (fun _ _ _ _ _ _ _ _ => rfl) H h
theorem sum_pure (ps : List (List Int)) (p : List Int) (r : List (List Int)) (hps : ps = p :: r) (hp : p ≠ []) (hsz : ps.flatten.length ≤ 1000000) (hpl2 : ps.length ≤ 1000000) : PureC E2 58 [.psl Th.byss ps false] (dig32 (shaF ps.flatten)) := by
  refine pure_of_call E2_ok (callOk_of E2_ok F20_ok 400) ?_
  rw [cond_sum]
  have hpl : 0 < ps.length := by rw [hps]; simp
  simp only [bif_true, bif_false, bif_nt, bif_tf, bif_ft, beq_iff_eq, bne_iff_ne, beq_eq_false_iff_ne, bne_eq_false_iff_eq, decide_eq_true_eq, decide_eq_false_iff_not, Bool.or_eq_true, Bool.or_eq_false_iff, Bool.not_eq_true', Bool.not_eq_false', Bool.and_eq_true, Bool.and_true, Bool.true_and, Bool.and_eq_false_iff, beq_self_eq_true, mm2_max, mm2_min, ne_eq, and_true, true_and, Bool.true_eq_false, Bool.false_eq_true, false_or, or_false, true_implies, Int.ofNat_eq_natCast, not_true_eq_false, not_false_eq_true, Decidable.not_not, eq_self, false_and, and_false, exists_false, IntKind.bits, Int.toNat_natCast, imp_self]
  have htm : ∀ n : Nat, Int.tmod (n : Int) 64 = ((n % 64 : Nat) : Int) := fun n => rfl
  refine ⟨fun s x => match s with | true => x.k = 0 ∧ x.r = ps.length + 1 | false => 1 ≤ x.k ∧ x.k ≤ ps.length ∧ x.D = (ps.take x.k).flatten ∧ x.r = ps.length - x.k, ⟨⟨0, ps.length + 1, [], [], 0, 0, 0, 0⟩, ⟨rfl, rfl⟩, rfl⟩, ?_, ?_⟩
  · rintro x ⟨hk, hr⟩
    refine And.intro (fun _ => ?_) (fun h => absurd h (by rw [hk]; omega))
    rw [hk]
    refine ⟨by omega, by omega, fun y hy => ?_⟩
    rw [hps] at hy
    cases hy
    refine And.intro (fun h => absurd h hp) (fun _ => ?_)
    refine ⟨?_, ⟨1, ps.length - 1, p, [], 0, 0, 0, 0⟩, ⟨Nat.le_refl _, hpl, ?_, rfl⟩, ?_, ⟨rfl, ?_⟩, rfl⟩
    · have : p.length ≤ ps.flatten.length := by rw [hps]; simp
      omega
    · rw [hps]; simp
    · show ps.length - 1 + 1 ≤ x.r
      omega
    · exact wr64 (by omega) (by omega)
  · rintro x ⟨hk1, hk2, hD, hr⟩
    refine And.intro (fun h => ?_) (fun h => ?_)
    · have hkl : x.k < ps.length := by omega
      refine ⟨by omega, by omega, fun y hy => ?_⟩
      have ht : (ps.take (x.k + 1)).flatten = x.D ++ y := by rw [List.take_add_one, hy, hD]; simp
      have hsum : (ps.take (x.k + 1)).flatten.length ≤ ps.flatten.length := by
        have e : ps.flatten = (ps.take (x.k + 1)).flatten ++ (ps.drop (x.k + 1)).flatten := by rw [← List.flatten_append, List.take_append_drop]
        rw [e, List.length_append]; omega
      rw [ht, List.length_append] at hsum
      have hw : wr .i64 ((x.k : Int) + 1) = ((x.k + 1 : Nat) : Int) := wr64 (by omega) (by omega)
      refine And.intro (fun hy0 => ?_) (fun hy0 => ?_)
      · refine ⟨⟨x.k + 1, x.r - 1, x.D, [], 0, 0, 0, 0⟩, ⟨by show 1 ≤ x.k + 1; omega, hkl, ?_, by show x.r - 1 = ps.length - (x.k + 1); omega⟩, by show x.r - 1 + 1 ≤ x.r; omega, ⟨rfl, hw⟩, rfl⟩
        rw [ht, hy0, List.append_nil]
      · refine ⟨⟨Nat.le_refl _, Nat.zero_le _, by omega⟩, ⟨x.k + 1, x.r - 1, x.D ++ y, [], 0, 0, 0, 0⟩, ⟨by show 1 ≤ x.k + 1; omega, hkl, ht.symm, by show x.r - 1 = ps.length - (x.k + 1); omega⟩, by show x.r - 1 + 1 ≤ x.r; omega, ⟨by simp, hw⟩, by rw [List.take_length]⟩
    · have hk : x.k = ps.length := by omega
      rw [hk, List.take_length] at hD
      clear hr hk1 hk2 hk h
      generalize ps.flatten = m at *
      rw [hD]
      have hzc : zc m.length < 64 := by unfold zc; omega
      refine ⟨⟨Nat.le_refl _, Nat.zero_le _, by omega⟩, fun y => ∃ j, j ≤ zc m.length ∧ y.D = m ++ [128] ++ List.replicate j 0 ∧ y.r = zc m.length - j, ⟨⟨0, zc m.length, m ++ [128], [], 0, 0, 0, 0⟩, ⟨0, Nat.zero_le _, by simp, rfl⟩, by simp, by simp⟩, ?_⟩
      rintro y ⟨j, hj, hyD, hyr⟩
      have hyl : y.D.length = m.length + 1 + j := by rw [hyD]; simp; omega
      refine And.intro (fun h => ?_) (fun h => ?_)
      · have hjl : j < zc m.length := by
          rcases Nat.lt_or_ge j (zc m.length) with h1 | h1
          · exact h1
          · exfalso
            apply h
            rw [htm, hyl]
            unfold zc at *
            omega
        refine ⟨⟨Nat.le_refl _, Nat.zero_le _, by omega⟩, ⟨0, zc m.length - (j + 1), y.D ++ [0], [], 0, 0, 0, 0⟩, ⟨j + 1, hjl, ?_, rfl⟩, by show zc m.length - (j + 1) + 1 ≤ y.r; omega, by simp, by rw [List.take_length]⟩
        show y.D ++ [0] = _
        rw [hyD, List.replicate_succ']; simp
      · have hje : j = zc m.length := by
          rw [htm, hyl] at h
          unfold zc at *
          omega
        rw [hje] at hyD
        rw [hje] at hyl
        generalize hB : y.D = base at *
        generalize hN : wr .u64 (wr .u64 (m.length : Int) * 8) = N
        refine ⟨fun z => ∃ q, q ≤ 8 ∧ z.D = base ++ len8 N q ∧ z.j = 56 - 8 * (q : Int) ∧ z.r = 8 - q, ⟨⟨0, 8, base, [], 0, 0, 0, 56⟩, ⟨0, by omega, by simp [len8], rfl, rfl⟩, ⟨rfl, rfl⟩, rfl⟩, ?_⟩
        rintro z ⟨q, hq, hzD, hzj, hzr⟩
        have hzl : z.D.length = base.length + q := by rw [hzD, List.length_append, len8_len]
        refine And.intro (fun h => ?_) (fun h => ?_)
        · refine ⟨h, ⟨Nat.le_refl _, Nat.zero_le _, by omega⟩, ⟨0, 8 - (q + 1), z.D ++ [wr .u8 (N.fdiv (2 ^ min z.j.toNat 64))], [], 0, 0, 0, z.j - 8⟩, ⟨q + 1, by omega, ?_, ?_, rfl⟩, by show 8 - (q + 1) + 1 ≤ z.r; omega, ⟨by simp, wr64 (by omega) (by omega)⟩, by rw [List.take_length]⟩
          · show z.D ++ _ = _
            rw [len8_succ, ← hzj, ← List.append_assoc, ← hzD]
          · show z.j - 8 = 56 - 8 * ((q + 1 : Nat) : Int)
            omega
        · obtain rfl : q = 8 := by omega
          have hzP : z.D = padF m := by rw [hzD, hyD, ← hN]; rfl
          rw [hzP]
          have hL := pad_len m
          have hL0 : 0 < (padF m).length := by rw [← hzP, hzl]; omega
          generalize hFIN : blkAll ((padF m).length / 64) H0 (padF m) = FIN
          have hsha : shaF m = digF FIN := by rw [← hFIN]; rfl
          rw [hsha]
          generalize padF m = L at *
          refine ⟨fun s u => match s with | true => u.n + u.m = L.length ∧ u.m % 64 = 0 ∧ 0 < u.m ∧ u.H.length = 8 ∧ blkAll (u.m / 64) u.H (L.drop u.n) = FIN ∧ u.r = u.m | false => u.H = FIN ∧ u.r = 0, ⟨⟨0, L.length, [], H0, 0, L.length, 0, 0⟩, ⟨by simp, hL, hL0, rfl, hFIN, rfl⟩, ⟨rfl, rfl⟩, ⟨rfl, rfl, rfl, rfl, rfl, rfl, rfl, rfl⟩, rfl⟩, ?_, ?_⟩
          · rintro u ⟨hu1, hu2, hu3, hu4, hu5, hu6⟩
            refine And.intro (fun h => ?_) (fun h => absurd (by omega) h)
            simp only [row8L hu4]
            have hdiv : u.m / 64 = (u.m - 64) / 64 + 1 := by omega
            rw [hdiv] at hu5
            have hfin : blkAll ((u.m - 64) / 64) (blkF u.H ((L.drop u.n).take 64)) (L.drop (u.n + 64)) = FIN := by rw [← hu5]; show _ = blkAll _ _ ((L.drop u.n).drop 64); rw [List.drop_drop]
            refine ⟨⟨by omega, by omega⟩, by show u.n + 64 ≤ _; omega, by simp; omega, ⟨by omega, by omega⟩, ?_⟩
            have h8 : (blkF u.H ((L.drop u.n).take 64)).length = 8 := blkF_len hu4 (by simp; omega)
            refine And.intro (fun h64 => ⟨⟨0, u.m - 64, [], blkF u.H ((L.drop u.n).take 64), u.n + 64, u.m - 64, mx2 u.fz L.length, 0⟩, ⟨?_, ?_, ?_, h8, hfin, rfl⟩, ?_, ⟨rfl, rfl⟩, ⟨rfl, rfl, rfl, rfl, rfl, rfl, rfl, rfl⟩, rfl⟩) (fun h64 => ⟨⟨0, 0, [], blkF u.H ((L.drop u.n).take 64), 0, 0, 0, 0⟩, ⟨?_, rfl⟩, ?_, ⟨rfl, rfl, rfl, rfl, rfl, rfl, rfl, rfl⟩⟩)
            · show u.n + 64 + (u.m - 64) = _; omega
            · show (u.m - 64) % 64 = 0; omega
            · show 0 < u.m - 64; omega
            · show u.m - 64 + 1 ≤ u.r; omega
            · have e : (u.m - 64) / 64 = 0 := by omega
              rw [e] at hfin
              exact hfin
            · show 0 + 1 ≤ u.r; omega
          · rintro u ⟨hu, hr⟩
            refine And.intro (fun h => absurd h (by simp)) (fun _ => ?_)
            rw [hu]
            exact ⟨rfl, rfl, rfl, rfl, rfl, rfl, rfl, rfl, rfl, rfl, rfl, rfl, rfl, rfl, rfl, rfl, rfl, rfl, rfl, rfl, rfl, rfl, rfl, rfl, rfl, rfl, rfl, rfl, rfl, rfl, rfl, rfl⟩
end Go.Proofs.YtcaomfbcchemnaaDoor

/- Digests with a tag: Tagged, Value, hashed. -/
namespace Go.Proofs.YtcaomfbcchemnaaDoor
open Go
set_option linter.unusedVariables false
set_option linter.unusedSimpArgs false
theorem encode_pure2 (v : Val) (hv : OkV v) : PureC E2 45 [.agg (encF false .vals v)] (.tup [.psl Th.bys (encodeF v).1 false, .int false .i64 (encodeF v).2]) := up2 (encode_pure v hv)
/-- a known string -/
def dTag {E : Eng thy} (ts : List ByteArray) : Dc E Nat where
  dec v := match v with | .str _ b => (match ts.findIdx? (fun t => t.data.toList == b.data.toList) with | some j => some j | none => none) | _ => none
  enc i := .str true (ts.getD i ⟨#[]⟩)
  ok v i h := by
    split at h
    · rename_i fl b
      split at h
      · rename_i j hj
        cases h
        refine ⟨rfl, rfl, fun σ g u hd => ?_⟩
        rw [List.findIdx?_eq_some_iff_getElem] at hj
        obtain ⟨hlt, he, _⟩ := hj
        have e : ts.getD i ⟨#[]⟩ = b := by
          rw [List.getD_eq_getElem?_getD, List.getElem?_eq_getElem hlt]
          have he := eq_of_beq he
          show ts[i] = b
          have h2 : ts[i].data = b.data := by rw [← Array.toList_inj]; exact he
          cases hx : ts[i]; cases b
          rw [hx] at h2
          simp only at h2
          rw [h2]
        rw [e]
        cases hd
        exact .str _ _
      · cases h
    · cases h
/-- stack, program, inputs, state -/
def tags : List ByteArray := [⟨#[115, 116, 97, 99, 107]⟩, ⟨#[112, 114, 111, 103, 114, 97, 109]⟩, ⟨#[105, 110, 112, 117, 116, 115]⟩, ⟨#[115, 116, 97, 116, 101]⟩]
/-- what sum asks of its parts -/
structure PartsOk (ps : List (List Int)) : Prop where
  ne : ∃ p r, ps = p :: r ∧ p ≠ []
  sz : ps.flatten.length ≤ 1000000
  len : ps.length ≤ 1000000
def gthV (cs : List (SV thy)) : Option Th := match cs with | .int _ .u8 _ :: _ => some .bys | _ => none
noncomputable def Ssum : Sum thy := sumF E2 gthV 4 (.cons (dByss E2) .nil) (fun x => PartsOk x.1) fun x => dig32 (shaF x.1.flatten)
theorem Ssum_ok : SumOk E2 58 Ssum := sumF_ok E2_ok (good_of (f := 58) rfl) fun x h => by
  obtain ⟨⟨p, r, h1, h2⟩, h3, h4⟩ := h
  exact sum_pure x.1 p r h1 h2 h3 h4
noncomputable def Senc : Sum thy := sumF E2 gthV 8 (.cons (dRow E2_ok Th.vals fun _ _ h => dec_nid (th := Th.vals) h : Dc E2 Val) .nil) (fun x => OkV x.1) fun x => .tup [.psl Th.bys (encodeF x.1).1 false, .int false .i64 (encodeF x.1).2]
theorem Senc_ok : SumOk E2 45 Senc := sumF_ok E2_ok (good_of (f := 45) rfl) fun x h => encode_pure2 x.1 h
noncomputable def Fdig : Fns thy := addS (addS F0 58 Ssum) 45 Senc
theorem Fdig_ok : FnsOk E2 Fdig := addS_ok (addS_ok F0_ok2 Ssum_ok) Senc_ok
--@cond hash0 | 41 | E2:Fdig | 400 | (v : Val) | [.str true ⟨#[115, 116, 97, 99, 107]⟩, .agg (encF false .vals v)] | (d : List Int) | dig32 d
theorem cond_hash0 (v : Val) (d : List Int) : callF E2 Fdig (vc E2 Fdig 400) 41 [.str true ⟨#[115, 116, 97, 99, 107]⟩, .agg (encF false .vals v)] hp0 0 (fun r => ret E2 (patch hp0 0 r) r.v (dig32 d)) = (
  OkV (Val.mk (Val.k v) (Val.n v) (Val.b v) (Val.l v)) ∧ PartsOk [[(5 : Int)], [(↑(115 : Nat) : Int), (↑(116 : Nat) : Int), (↑(97 : Nat) : Int), (↑(99 : Nat) : Int), (↑(107 : Nat) :
  Int)], Prod.fst (encodeF (Val.mk (Val.k v) (Val.n v) (Val.b v) (Val.l v)))] ∧ List.getD (shaF (List.flatten [[(5 : Int)], [(↑(115 : Nat) : Int), (↑(116 : Nat) : Int), (↑(97 : Nat)
  : Int), (↑(99 : Nat) : Int), (↑(107 : Nat) : Int)], Prod.fst (encodeF (Val.mk (Val.k v) (Val.n v) (Val.b v) (Val.l v)))])) (0 : Nat) (0 : Int) = List.getD d (0 : Nat) (0 : Int) ∧
  List.getD (shaF (List.flatten [[(5 : Int)], [(↑(115 : Nat) : Int), (↑(116 : Nat) : Int), (↑(97 : Nat) : Int), (↑(99 : Nat) : Int), (↑(107 : Nat) : Int)], Prod.fst (encodeF (Val.mk
  (Val.k v) (Val.n v) (Val.b v) (Val.l v)))])) (1 : Nat) (0 : Int) = List.getD d (1 : Nat) (0 : Int) ∧ List.getD (shaF (List.flatten [[(5 : Int)], [(↑(115 : Nat) : Int), (↑(116 :
  Nat) : Int), (↑(97 : Nat) : Int), (↑(99 : Nat) : Int), (↑(107 : Nat) : Int)], Prod.fst (encodeF (Val.mk (Val.k v) (Val.n v) (Val.b v) (Val.l v)))])) (2 : Nat) (0 : Int) = List.getD
  d (2 : Nat) (0 : Int) ∧ List.getD (shaF (List.flatten [[(5 : Int)], [(↑(115 : Nat) : Int), (↑(116 : Nat) : Int), (↑(97 : Nat) : Int), (↑(99 : Nat) : Int), (↑(107 : Nat) : Int)],
  Prod.fst (encodeF (Val.mk (Val.k v) (Val.n v) (Val.b v) (Val.l v)))])) (3 : Nat) (0 : Int) = List.getD d (3 : Nat) (0 : Int) ∧ List.getD (shaF (List.flatten [[(5 : Int)], [(↑(115 :
  Nat) : Int), (↑(116 : Nat) : Int), (↑(97 : Nat) : Int), (↑(99 : Nat) : Int), (↑(107 : Nat) : Int)], Prod.fst (encodeF (Val.mk (Val.k v) (Val.n v) (Val.b v) (Val.l v)))])) (4 : Nat)
  (0 : Int) = List.getD d (4 : Nat) (0 : Int) ∧ List.getD (shaF (List.flatten [[(5 : Int)], [(↑(115 : Nat) : Int), (↑(116 : Nat) : Int), (↑(97 : Nat) : Int), (↑(99 : Nat) : Int),
  (↑(107 : Nat) : Int)], Prod.fst (encodeF (Val.mk (Val.k v) (Val.n v) (Val.b v) (Val.l v)))])) (5 : Nat) (0 : Int) = List.getD d (5 : Nat) (0 : Int) ∧ List.getD (shaF (List.flatten
  [[(5 : Int)], [(↑(115 : Nat) : Int), (↑(116 : Nat) : Int), (↑(97 : Nat) : Int), (↑(99 : Nat) : Int), (↑(107 : Nat) : Int)], Prod.fst (encodeF (Val.mk (Val.k v) (Val.n v) (Val.b v)
  (Val.l v)))])) (6 : Nat) (0 : Int) = List.getD d (6 : Nat) (0 : Int) ∧ List.getD (shaF (List.flatten [[(5 : Int)], [(↑(115 : Nat) : Int), (↑(116 : Nat) : Int), (↑(97 : Nat) : Int),
  (↑(99 : Nat) : Int), (↑(107 : Nat) : Int)], Prod.fst (encodeF (Val.mk (Val.k v) (Val.n v) (Val.b v) (Val.l v)))])) (7 : Nat) (0 : Int) = List.getD d (7 : Nat) (0 : Int) ∧ List.getD
  (shaF (List.flatten [[(5 : Int)], [(↑(115 : Nat) : Int), (↑(116 : Nat) : Int), (↑(97 : Nat) : Int), (↑(99 : Nat) : Int), (↑(107 : Nat) : Int)], Prod.fst (encodeF (Val.mk (Val.k v)
  (Val.n v) (Val.b v) (Val.l v)))])) (8 : Nat) (0 : Int) = List.getD d (8 : Nat) (0 : Int) ∧ List.getD (shaF (List.flatten [[(5 : Int)], [(↑(115 : Nat) : Int), (↑(116 : Nat) : Int),
  (↑(97 : Nat) : Int), (↑(99 : Nat) : Int), (↑(107 : Nat) : Int)], Prod.fst (encodeF (Val.mk (Val.k v) (Val.n v) (Val.b v) (Val.l v)))])) (9 : Nat) (0 : Int) = List.getD d (9 : Nat)
  (0 : Int) ∧ List.getD (shaF (List.flatten [[(5 : Int)], [(↑(115 : Nat) : Int), (↑(116 : Nat) : Int), (↑(97 : Nat) : Int), (↑(99 : Nat) : Int), (↑(107 : Nat) : Int)], Prod.fst
  (encodeF (Val.mk (Val.k v) (Val.n v) (Val.b v) (Val.l v)))])) (10 : Nat) (0 : Int) = List.getD d (10 : Nat) (0 : Int) ∧ List.getD (shaF (List.flatten [[(5 : Int)], [(↑(115 : Nat) :
  Int), (↑(116 : Nat) : Int), (↑(97 : Nat) : Int), (↑(99 : Nat) : Int), (↑(107 : Nat) : Int)], Prod.fst (encodeF (Val.mk (Val.k v) (Val.n v) (Val.b v) (Val.l v)))])) (11 : Nat) (0 :
  Int) = List.getD d (11 : Nat) (0 : Int) ∧ List.getD (shaF (List.flatten [[(5 : Int)], [(↑(115 : Nat) : Int), (↑(116 : Nat) : Int), (↑(97 : Nat) : Int), (↑(99 : Nat) : Int), (↑(107
  : Nat) : Int)], Prod.fst (encodeF (Val.mk (Val.k v) (Val.n v) (Val.b v) (Val.l v)))])) (12 : Nat) (0 : Int) = List.getD d (12 : Nat) (0 : Int) ∧ List.getD (shaF (List.flatten [[(5
  : Int)], [(↑(115 : Nat) : Int), (↑(116 : Nat) : Int), (↑(97 : Nat) : Int), (↑(99 : Nat) : Int), (↑(107 : Nat) : Int)], Prod.fst (encodeF (Val.mk (Val.k v) (Val.n v) (Val.b v)
  (Val.l v)))])) (13 : Nat) (0 : Int) = List.getD d (13 : Nat) (0 : Int) ∧ List.getD (shaF (List.flatten [[(5 : Int)], [(↑(115 : Nat) : Int), (↑(116 : Nat) : Int), (↑(97 : Nat) :
  Int), (↑(99 : Nat) : Int), (↑(107 : Nat) : Int)], Prod.fst (encodeF (Val.mk (Val.k v) (Val.n v) (Val.b v) (Val.l v)))])) (14 : Nat) (0 : Int) = List.getD d (14 : Nat) (0 : Int) ∧
  List.getD (shaF (List.flatten [[(5 : Int)], [(↑(115 : Nat) : Int), (↑(116 : Nat) : Int), (↑(97 : Nat) : Int), (↑(99 : Nat) : Int), (↑(107 : Nat) : Int)], Prod.fst (encodeF (Val.mk
  (Val.k v) (Val.n v) (Val.b v) (Val.l v)))])) (15 : Nat) (0 : Int) = List.getD d (15 : Nat) (0 : Int) ∧ List.getD (shaF (List.flatten [[(5 : Int)], [(↑(115 : Nat) : Int), (↑(116 :
  Nat) : Int), (↑(97 : Nat) : Int), (↑(99 : Nat) : Int), (↑(107 : Nat) : Int)], Prod.fst (encodeF (Val.mk (Val.k v) (Val.n v) (Val.b v) (Val.l v)))])) (16 : Nat) (0 : Int) =
  List.getD d (16 : Nat) (0 : Int) ∧ List.getD (shaF (List.flatten [[(5 : Int)], [(↑(115 : Nat) : Int), (↑(116 : Nat) : Int), (↑(97 : Nat) : Int), (↑(99 : Nat) : Int), (↑(107 : Nat)
  : Int)], Prod.fst (encodeF (Val.mk (Val.k v) (Val.n v) (Val.b v) (Val.l v)))])) (17 : Nat) (0 : Int) = List.getD d (17 : Nat) (0 : Int) ∧ List.getD (shaF (List.flatten [[(5 :
  Int)], [(↑(115 : Nat) : Int), (↑(116 : Nat) : Int), (↑(97 : Nat) : Int), (↑(99 : Nat) : Int), (↑(107 : Nat) : Int)], Prod.fst (encodeF (Val.mk (Val.k v) (Val.n v) (Val.b v) (Val.l
  v)))])) (18 : Nat) (0 : Int) = List.getD d (18 : Nat) (0 : Int) ∧ List.getD (shaF (List.flatten [[(5 : Int)], [(↑(115 : Nat) : Int), (↑(116 : Nat) : Int), (↑(97 : Nat) : Int),
  (↑(99 : Nat) : Int), (↑(107 : Nat) : Int)], Prod.fst (encodeF (Val.mk (Val.k v) (Val.n v) (Val.b v) (Val.l v)))])) (19 : Nat) (0 : Int) = List.getD d (19 : Nat) (0 : Int) ∧
  List.getD (shaF (List.flatten [[(5 : Int)], [(↑(115 : Nat) : Int), (↑(116 : Nat) : Int), (↑(97 : Nat) : Int), (↑(99 : Nat) : Int), (↑(107 : Nat) : Int)], Prod.fst (encodeF (Val.mk
  (Val.k v) (Val.n v) (Val.b v) (Val.l v)))])) (20 : Nat) (0 : Int) = List.getD d (20 : Nat) (0 : Int) ∧ List.getD (shaF (List.flatten [[(5 : Int)], [(↑(115 : Nat) : Int), (↑(116 :
  Nat) : Int), (↑(97 : Nat) : Int), (↑(99 : Nat) : Int), (↑(107 : Nat) : Int)], Prod.fst (encodeF (Val.mk (Val.k v) (Val.n v) (Val.b v) (Val.l v)))])) (21 : Nat) (0 : Int) =
  List.getD d (21 : Nat) (0 : Int) ∧ List.getD (shaF (List.flatten [[(5 : Int)], [(↑(115 : Nat) : Int), (↑(116 : Nat) : Int), (↑(97 : Nat) : Int), (↑(99 : Nat) : Int), (↑(107 : Nat)
  : Int)], Prod.fst (encodeF (Val.mk (Val.k v) (Val.n v) (Val.b v) (Val.l v)))])) (22 : Nat) (0 : Int) = List.getD d (22 : Nat) (0 : Int) ∧ List.getD (shaF (List.flatten [[(5 :
  Int)], [(↑(115 : Nat) : Int), (↑(116 : Nat) : Int), (↑(97 : Nat) : Int), (↑(99 : Nat) : Int), (↑(107 : Nat) : Int)], Prod.fst (encodeF (Val.mk (Val.k v) (Val.n v) (Val.b v) (Val.l
  v)))])) (23 : Nat) (0 : Int) = List.getD d (23 : Nat) (0 : Int) ∧ List.getD (shaF (List.flatten [[(5 : Int)], [(↑(115 : Nat) : Int), (↑(116 : Nat) : Int), (↑(97 : Nat) : Int),
  (↑(99 : Nat) : Int), (↑(107 : Nat) : Int)], Prod.fst (encodeF (Val.mk (Val.k v) (Val.n v) (Val.b v) (Val.l v)))])) (24 : Nat) (0 : Int) = List.getD d (24 : Nat) (0 : Int) ∧
  List.getD (shaF (List.flatten [[(5 : Int)], [(↑(115 : Nat) : Int), (↑(116 : Nat) : Int), (↑(97 : Nat) : Int), (↑(99 : Nat) : Int), (↑(107 : Nat) : Int)], Prod.fst (encodeF (Val.mk
  (Val.k v) (Val.n v) (Val.b v) (Val.l v)))])) (25 : Nat) (0 : Int) = List.getD d (25 : Nat) (0 : Int) ∧ List.getD (shaF (List.flatten [[(5 : Int)], [(↑(115 : Nat) : Int), (↑(116 :
  Nat) : Int), (↑(97 : Nat) : Int), (↑(99 : Nat) : Int), (↑(107 : Nat) : Int)], Prod.fst (encodeF (Val.mk (Val.k v) (Val.n v) (Val.b v) (Val.l v)))])) (26 : Nat) (0 : Int) =
  List.getD d (26 : Nat) (0 : Int) ∧ List.getD (shaF (List.flatten [[(5 : Int)], [(↑(115 : Nat) : Int), (↑(116 : Nat) : Int), (↑(97 : Nat) : Int), (↑(99 : Nat) : Int), (↑(107 : Nat)
  : Int)], Prod.fst (encodeF (Val.mk (Val.k v) (Val.n v) (Val.b v) (Val.l v)))])) (27 : Nat) (0 : Int) = List.getD d (27 : Nat) (0 : Int) ∧ List.getD (shaF (List.flatten [[(5 :
  Int)], [(↑(115 : Nat) : Int), (↑(116 : Nat) : Int), (↑(97 : Nat) : Int), (↑(99 : Nat) : Int), (↑(107 : Nat) : Int)], Prod.fst (encodeF (Val.mk (Val.k v) (Val.n v) (Val.b v) (Val.l
  v)))])) (28 : Nat) (0 : Int) = List.getD d (28 : Nat) (0 : Int) ∧ List.getD (shaF (List.flatten [[(5 : Int)], [(↑(115 : Nat) : Int), (↑(116 : Nat) : Int), (↑(97 : Nat) : Int),
  (↑(99 : Nat) : Int), (↑(107 : Nat) : Int)], Prod.fst (encodeF (Val.mk (Val.k v) (Val.n v) (Val.b v) (Val.l v)))])) (29 : Nat) (0 : Int) = List.getD d (29 : Nat) (0 : Int) ∧
  List.getD (shaF (List.flatten [[(5 : Int)], [(↑(115 : Nat) : Int), (↑(116 : Nat) : Int), (↑(97 : Nat) : Int), (↑(99 : Nat) : Int), (↑(107 : Nat) : Int)], Prod.fst (encodeF (Val.mk
  (Val.k v) (Val.n v) (Val.b v) (Val.l v)))])) (30 : Nat) (0 : Int) = List.getD d (30 : Nat) (0 : Int) ∧ List.getD (shaF (List.flatten [[(5 : Int)], [(↑(115 : Nat) : Int), (↑(116 :
  Nat) : Int), (↑(97 : Nat) : Int), (↑(99 : Nat) : Int), (↑(107 : Nat) : Int)], Prod.fst (encodeF (Val.mk (Val.k v) (Val.n v) (Val.b v) (Val.l v)))])) (31 : Nat) (0 : Int) =
  List.getD d (31 : Nat) (0 : Int) ∧ True
  ) := by kernel_rfl
--@end
--@cond hash1 | 41 | E2:Fdig | 400 | (v : Val) | [.str true ⟨#[112, 114, 111, 103, 114, 97, 109]⟩, .agg (encF false .vals v)] | (d : List Int) | dig32 d
theorem cond_hash1 (v : Val) (d : List Int) : callF E2 Fdig (vc E2 Fdig 400) 41 [.str true ⟨#[112, 114, 111, 103, 114, 97, 109]⟩, .agg (encF false .vals v)] hp0 0 (fun r => ret E2 (patch hp0 0 r) r.v (dig32 d)) = (
  OkV (Val.mk (Val.k v) (Val.n v) (Val.b v) (Val.l v)) ∧ PartsOk [[(7 : Int)], [(↑(112 : Nat) : Int), (↑(114 : Nat) : Int), (↑(111 : Nat) : Int), (↑(103 : Nat) : Int), (↑(114 : Nat)
  : Int), (↑(97 : Nat) : Int), (↑(109 : Nat) : Int)], Prod.fst (encodeF (Val.mk (Val.k v) (Val.n v) (Val.b v) (Val.l v)))] ∧ List.getD (shaF (List.flatten [[(7 : Int)], [(↑(112 :
  Nat) : Int), (↑(114 : Nat) : Int), (↑(111 : Nat) : Int), (↑(103 : Nat) : Int), (↑(114 : Nat) : Int), (↑(97 : Nat) : Int), (↑(109 : Nat) : Int)], Prod.fst (encodeF (Val.mk (Val.k v)
  (Val.n v) (Val.b v) (Val.l v)))])) (0 : Nat) (0 : Int) = List.getD d (0 : Nat) (0 : Int) ∧ List.getD (shaF (List.flatten [[(7 : Int)], [(↑(112 : Nat) : Int), (↑(114 : Nat) : Int),
  (↑(111 : Nat) : Int), (↑(103 : Nat) : Int), (↑(114 : Nat) : Int), (↑(97 : Nat) : Int), (↑(109 : Nat) : Int)], Prod.fst (encodeF (Val.mk (Val.k v) (Val.n v) (Val.b v) (Val.l v)))]))
  (1 : Nat) (0 : Int) = List.getD d (1 : Nat) (0 : Int) ∧ List.getD (shaF (List.flatten [[(7 : Int)], [(↑(112 : Nat) : Int), (↑(114 : Nat) : Int), (↑(111 : Nat) : Int), (↑(103 : Nat)
  : Int), (↑(114 : Nat) : Int), (↑(97 : Nat) : Int), (↑(109 : Nat) : Int)], Prod.fst (encodeF (Val.mk (Val.k v) (Val.n v) (Val.b v) (Val.l v)))])) (2 : Nat) (0 : Int) = List.getD d
  (2 : Nat) (0 : Int) ∧ List.getD (shaF (List.flatten [[(7 : Int)], [(↑(112 : Nat) : Int), (↑(114 : Nat) : Int), (↑(111 : Nat) : Int), (↑(103 : Nat) : Int), (↑(114 : Nat) : Int),
  (↑(97 : Nat) : Int), (↑(109 : Nat) : Int)], Prod.fst (encodeF (Val.mk (Val.k v) (Val.n v) (Val.b v) (Val.l v)))])) (3 : Nat) (0 : Int) = List.getD d (3 : Nat) (0 : Int) ∧ List.getD
  (shaF (List.flatten [[(7 : Int)], [(↑(112 : Nat) : Int), (↑(114 : Nat) : Int), (↑(111 : Nat) : Int), (↑(103 : Nat) : Int), (↑(114 : Nat) : Int), (↑(97 : Nat) : Int), (↑(109 : Nat)
  : Int)], Prod.fst (encodeF (Val.mk (Val.k v) (Val.n v) (Val.b v) (Val.l v)))])) (4 : Nat) (0 : Int) = List.getD d (4 : Nat) (0 : Int) ∧ List.getD (shaF (List.flatten [[(7 : Int)],
  [(↑(112 : Nat) : Int), (↑(114 : Nat) : Int), (↑(111 : Nat) : Int), (↑(103 : Nat) : Int), (↑(114 : Nat) : Int), (↑(97 : Nat) : Int), (↑(109 : Nat) : Int)], Prod.fst (encodeF (Val.mk
  (Val.k v) (Val.n v) (Val.b v) (Val.l v)))])) (5 : Nat) (0 : Int) = List.getD d (5 : Nat) (0 : Int) ∧ List.getD (shaF (List.flatten [[(7 : Int)], [(↑(112 : Nat) : Int), (↑(114 :
  Nat) : Int), (↑(111 : Nat) : Int), (↑(103 : Nat) : Int), (↑(114 : Nat) : Int), (↑(97 : Nat) : Int), (↑(109 : Nat) : Int)], Prod.fst (encodeF (Val.mk (Val.k v) (Val.n v) (Val.b v)
  (Val.l v)))])) (6 : Nat) (0 : Int) = List.getD d (6 : Nat) (0 : Int) ∧ List.getD (shaF (List.flatten [[(7 : Int)], [(↑(112 : Nat) : Int), (↑(114 : Nat) : Int), (↑(111 : Nat) :
  Int), (↑(103 : Nat) : Int), (↑(114 : Nat) : Int), (↑(97 : Nat) : Int), (↑(109 : Nat) : Int)], Prod.fst (encodeF (Val.mk (Val.k v) (Val.n v) (Val.b v) (Val.l v)))])) (7 : Nat) (0 :
  Int) = List.getD d (7 : Nat) (0 : Int) ∧ List.getD (shaF (List.flatten [[(7 : Int)], [(↑(112 : Nat) : Int), (↑(114 : Nat) : Int), (↑(111 : Nat) : Int), (↑(103 : Nat) : Int), (↑(114
  : Nat) : Int), (↑(97 : Nat) : Int), (↑(109 : Nat) : Int)], Prod.fst (encodeF (Val.mk (Val.k v) (Val.n v) (Val.b v) (Val.l v)))])) (8 : Nat) (0 : Int) = List.getD d (8 : Nat) (0 :
  Int) ∧ List.getD (shaF (List.flatten [[(7 : Int)], [(↑(112 : Nat) : Int), (↑(114 : Nat) : Int), (↑(111 : Nat) : Int), (↑(103 : Nat) : Int), (↑(114 : Nat) : Int), (↑(97 : Nat) :
  Int), (↑(109 : Nat) : Int)], Prod.fst (encodeF (Val.mk (Val.k v) (Val.n v) (Val.b v) (Val.l v)))])) (9 : Nat) (0 : Int) = List.getD d (9 : Nat) (0 : Int) ∧ List.getD (shaF
  (List.flatten [[(7 : Int)], [(↑(112 : Nat) : Int), (↑(114 : Nat) : Int), (↑(111 : Nat) : Int), (↑(103 : Nat) : Int), (↑(114 : Nat) : Int), (↑(97 : Nat) : Int), (↑(109 : Nat) :
  Int)], Prod.fst (encodeF (Val.mk (Val.k v) (Val.n v) (Val.b v) (Val.l v)))])) (10 : Nat) (0 : Int) = List.getD d (10 : Nat) (0 : Int) ∧ List.getD (shaF (List.flatten [[(7 : Int)],
  [(↑(112 : Nat) : Int), (↑(114 : Nat) : Int), (↑(111 : Nat) : Int), (↑(103 : Nat) : Int), (↑(114 : Nat) : Int), (↑(97 : Nat) : Int), (↑(109 : Nat) : Int)], Prod.fst (encodeF (Val.mk
  (Val.k v) (Val.n v) (Val.b v) (Val.l v)))])) (11 : Nat) (0 : Int) = List.getD d (11 : Nat) (0 : Int) ∧ List.getD (shaF (List.flatten [[(7 : Int)], [(↑(112 : Nat) : Int), (↑(114 :
  Nat) : Int), (↑(111 : Nat) : Int), (↑(103 : Nat) : Int), (↑(114 : Nat) : Int), (↑(97 : Nat) : Int), (↑(109 : Nat) : Int)], Prod.fst (encodeF (Val.mk (Val.k v) (Val.n v) (Val.b v)
  (Val.l v)))])) (12 : Nat) (0 : Int) = List.getD d (12 : Nat) (0 : Int) ∧ List.getD (shaF (List.flatten [[(7 : Int)], [(↑(112 : Nat) : Int), (↑(114 : Nat) : Int), (↑(111 : Nat) :
  Int), (↑(103 : Nat) : Int), (↑(114 : Nat) : Int), (↑(97 : Nat) : Int), (↑(109 : Nat) : Int)], Prod.fst (encodeF (Val.mk (Val.k v) (Val.n v) (Val.b v) (Val.l v)))])) (13 : Nat) (0 :
  Int) = List.getD d (13 : Nat) (0 : Int) ∧ List.getD (shaF (List.flatten [[(7 : Int)], [(↑(112 : Nat) : Int), (↑(114 : Nat) : Int), (↑(111 : Nat) : Int), (↑(103 : Nat) : Int),
  (↑(114 : Nat) : Int), (↑(97 : Nat) : Int), (↑(109 : Nat) : Int)], Prod.fst (encodeF (Val.mk (Val.k v) (Val.n v) (Val.b v) (Val.l v)))])) (14 : Nat) (0 : Int) = List.getD d (14 :
  Nat) (0 : Int) ∧ List.getD (shaF (List.flatten [[(7 : Int)], [(↑(112 : Nat) : Int), (↑(114 : Nat) : Int), (↑(111 : Nat) : Int), (↑(103 : Nat) : Int), (↑(114 : Nat) : Int), (↑(97 :
  Nat) : Int), (↑(109 : Nat) : Int)], Prod.fst (encodeF (Val.mk (Val.k v) (Val.n v) (Val.b v) (Val.l v)))])) (15 : Nat) (0 : Int) = List.getD d (15 : Nat) (0 : Int) ∧ List.getD (shaF
  (List.flatten [[(7 : Int)], [(↑(112 : Nat) : Int), (↑(114 : Nat) : Int), (↑(111 : Nat) : Int), (↑(103 : Nat) : Int), (↑(114 : Nat) : Int), (↑(97 : Nat) : Int), (↑(109 : Nat) :
  Int)], Prod.fst (encodeF (Val.mk (Val.k v) (Val.n v) (Val.b v) (Val.l v)))])) (16 : Nat) (0 : Int) = List.getD d (16 : Nat) (0 : Int) ∧ List.getD (shaF (List.flatten [[(7 : Int)],
  [(↑(112 : Nat) : Int), (↑(114 : Nat) : Int), (↑(111 : Nat) : Int), (↑(103 : Nat) : Int), (↑(114 : Nat) : Int), (↑(97 : Nat) : Int), (↑(109 : Nat) : Int)], Prod.fst (encodeF (Val.mk
  (Val.k v) (Val.n v) (Val.b v) (Val.l v)))])) (17 : Nat) (0 : Int) = List.getD d (17 : Nat) (0 : Int) ∧ List.getD (shaF (List.flatten [[(7 : Int)], [(↑(112 : Nat) : Int), (↑(114 :
  Nat) : Int), (↑(111 : Nat) : Int), (↑(103 : Nat) : Int), (↑(114 : Nat) : Int), (↑(97 : Nat) : Int), (↑(109 : Nat) : Int)], Prod.fst (encodeF (Val.mk (Val.k v) (Val.n v) (Val.b v)
  (Val.l v)))])) (18 : Nat) (0 : Int) = List.getD d (18 : Nat) (0 : Int) ∧ List.getD (shaF (List.flatten [[(7 : Int)], [(↑(112 : Nat) : Int), (↑(114 : Nat) : Int), (↑(111 : Nat) :
  Int), (↑(103 : Nat) : Int), (↑(114 : Nat) : Int), (↑(97 : Nat) : Int), (↑(109 : Nat) : Int)], Prod.fst (encodeF (Val.mk (Val.k v) (Val.n v) (Val.b v) (Val.l v)))])) (19 : Nat) (0 :
  Int) = List.getD d (19 : Nat) (0 : Int) ∧ List.getD (shaF (List.flatten [[(7 : Int)], [(↑(112 : Nat) : Int), (↑(114 : Nat) : Int), (↑(111 : Nat) : Int), (↑(103 : Nat) : Int),
  (↑(114 : Nat) : Int), (↑(97 : Nat) : Int), (↑(109 : Nat) : Int)], Prod.fst (encodeF (Val.mk (Val.k v) (Val.n v) (Val.b v) (Val.l v)))])) (20 : Nat) (0 : Int) = List.getD d (20 :
  Nat) (0 : Int) ∧ List.getD (shaF (List.flatten [[(7 : Int)], [(↑(112 : Nat) : Int), (↑(114 : Nat) : Int), (↑(111 : Nat) : Int), (↑(103 : Nat) : Int), (↑(114 : Nat) : Int), (↑(97 :
  Nat) : Int), (↑(109 : Nat) : Int)], Prod.fst (encodeF (Val.mk (Val.k v) (Val.n v) (Val.b v) (Val.l v)))])) (21 : Nat) (0 : Int) = List.getD d (21 : Nat) (0 : Int) ∧ List.getD (shaF
  (List.flatten [[(7 : Int)], [(↑(112 : Nat) : Int), (↑(114 : Nat) : Int), (↑(111 : Nat) : Int), (↑(103 : Nat) : Int), (↑(114 : Nat) : Int), (↑(97 : Nat) : Int), (↑(109 : Nat) :
  Int)], Prod.fst (encodeF (Val.mk (Val.k v) (Val.n v) (Val.b v) (Val.l v)))])) (22 : Nat) (0 : Int) = List.getD d (22 : Nat) (0 : Int) ∧ List.getD (shaF (List.flatten [[(7 : Int)],
  [(↑(112 : Nat) : Int), (↑(114 : Nat) : Int), (↑(111 : Nat) : Int), (↑(103 : Nat) : Int), (↑(114 : Nat) : Int), (↑(97 : Nat) : Int), (↑(109 : Nat) : Int)], Prod.fst (encodeF (Val.mk
  (Val.k v) (Val.n v) (Val.b v) (Val.l v)))])) (23 : Nat) (0 : Int) = List.getD d (23 : Nat) (0 : Int) ∧ List.getD (shaF (List.flatten [[(7 : Int)], [(↑(112 : Nat) : Int), (↑(114 :
  Nat) : Int), (↑(111 : Nat) : Int), (↑(103 : Nat) : Int), (↑(114 : Nat) : Int), (↑(97 : Nat) : Int), (↑(109 : Nat) : Int)], Prod.fst (encodeF (Val.mk (Val.k v) (Val.n v) (Val.b v)
  (Val.l v)))])) (24 : Nat) (0 : Int) = List.getD d (24 : Nat) (0 : Int) ∧ List.getD (shaF (List.flatten [[(7 : Int)], [(↑(112 : Nat) : Int), (↑(114 : Nat) : Int), (↑(111 : Nat) :
  Int), (↑(103 : Nat) : Int), (↑(114 : Nat) : Int), (↑(97 : Nat) : Int), (↑(109 : Nat) : Int)], Prod.fst (encodeF (Val.mk (Val.k v) (Val.n v) (Val.b v) (Val.l v)))])) (25 : Nat) (0 :
  Int) = List.getD d (25 : Nat) (0 : Int) ∧ List.getD (shaF (List.flatten [[(7 : Int)], [(↑(112 : Nat) : Int), (↑(114 : Nat) : Int), (↑(111 : Nat) : Int), (↑(103 : Nat) : Int),
  (↑(114 : Nat) : Int), (↑(97 : Nat) : Int), (↑(109 : Nat) : Int)], Prod.fst (encodeF (Val.mk (Val.k v) (Val.n v) (Val.b v) (Val.l v)))])) (26 : Nat) (0 : Int) = List.getD d (26 :
  Nat) (0 : Int) ∧ List.getD (shaF (List.flatten [[(7 : Int)], [(↑(112 : Nat) : Int), (↑(114 : Nat) : Int), (↑(111 : Nat) : Int), (↑(103 : Nat) : Int), (↑(114 : Nat) : Int), (↑(97 :
  Nat) : Int), (↑(109 : Nat) : Int)], Prod.fst (encodeF (Val.mk (Val.k v) (Val.n v) (Val.b v) (Val.l v)))])) (27 : Nat) (0 : Int) = List.getD d (27 : Nat) (0 : Int) ∧ List.getD (shaF
  (List.flatten [[(7 : Int)], [(↑(112 : Nat) : Int), (↑(114 : Nat) : Int), (↑(111 : Nat) : Int), (↑(103 : Nat) : Int), (↑(114 : Nat) : Int), (↑(97 : Nat) : Int), (↑(109 : Nat) :
  Int)], Prod.fst (encodeF (Val.mk (Val.k v) (Val.n v) (Val.b v) (Val.l v)))])) (28 : Nat) (0 : Int) = List.getD d (28 : Nat) (0 : Int) ∧ List.getD (shaF (List.flatten [[(7 : Int)],
  [(↑(112 : Nat) : Int), (↑(114 : Nat) : Int), (↑(111 : Nat) : Int), (↑(103 : Nat) : Int), (↑(114 : Nat) : Int), (↑(97 : Nat) : Int), (↑(109 : Nat) : Int)], Prod.fst (encodeF (Val.mk
  (Val.k v) (Val.n v) (Val.b v) (Val.l v)))])) (29 : Nat) (0 : Int) = List.getD d (29 : Nat) (0 : Int) ∧ List.getD (shaF (List.flatten [[(7 : Int)], [(↑(112 : Nat) : Int), (↑(114 :
  Nat) : Int), (↑(111 : Nat) : Int), (↑(103 : Nat) : Int), (↑(114 : Nat) : Int), (↑(97 : Nat) : Int), (↑(109 : Nat) : Int)], Prod.fst (encodeF (Val.mk (Val.k v) (Val.n v) (Val.b v)
  (Val.l v)))])) (30 : Nat) (0 : Int) = List.getD d (30 : Nat) (0 : Int) ∧ List.getD (shaF (List.flatten [[(7 : Int)], [(↑(112 : Nat) : Int), (↑(114 : Nat) : Int), (↑(111 : Nat) :
  Int), (↑(103 : Nat) : Int), (↑(114 : Nat) : Int), (↑(97 : Nat) : Int), (↑(109 : Nat) : Int)], Prod.fst (encodeF (Val.mk (Val.k v) (Val.n v) (Val.b v) (Val.l v)))])) (31 : Nat) (0 :
  Int) = List.getD d (31 : Nat) (0 : Int) ∧ True
  ) := by kernel_rfl
--@end
--@cond hash2 | 41 | E2:Fdig | 400 | (v : Val) | [.str true ⟨#[105, 110, 112, 117, 116, 115]⟩, .agg (encF false .vals v)] | (d : List Int) | dig32 d
theorem cond_hash2 (v : Val) (d : List Int) : callF E2 Fdig (vc E2 Fdig 400) 41 [.str true ⟨#[105, 110, 112, 117, 116, 115]⟩, .agg (encF false .vals v)] hp0 0 (fun r => ret E2 (patch hp0 0 r) r.v (dig32 d)) = (
  OkV (Val.mk (Val.k v) (Val.n v) (Val.b v) (Val.l v)) ∧ PartsOk [[(6 : Int)], [(↑(105 : Nat) : Int), (↑(110 : Nat) : Int), (↑(112 : Nat) : Int), (↑(117 : Nat) : Int), (↑(116 : Nat)
  : Int), (↑(115 : Nat) : Int)], Prod.fst (encodeF (Val.mk (Val.k v) (Val.n v) (Val.b v) (Val.l v)))] ∧ List.getD (shaF (List.flatten [[(6 : Int)], [(↑(105 : Nat) : Int), (↑(110 :
  Nat) : Int), (↑(112 : Nat) : Int), (↑(117 : Nat) : Int), (↑(116 : Nat) : Int), (↑(115 : Nat) : Int)], Prod.fst (encodeF (Val.mk (Val.k v) (Val.n v) (Val.b v) (Val.l v)))])) (0 :
  Nat) (0 : Int) = List.getD d (0 : Nat) (0 : Int) ∧ List.getD (shaF (List.flatten [[(6 : Int)], [(↑(105 : Nat) : Int), (↑(110 : Nat) : Int), (↑(112 : Nat) : Int), (↑(117 : Nat) :
  Int), (↑(116 : Nat) : Int), (↑(115 : Nat) : Int)], Prod.fst (encodeF (Val.mk (Val.k v) (Val.n v) (Val.b v) (Val.l v)))])) (1 : Nat) (0 : Int) = List.getD d (1 : Nat) (0 : Int) ∧
  List.getD (shaF (List.flatten [[(6 : Int)], [(↑(105 : Nat) : Int), (↑(110 : Nat) : Int), (↑(112 : Nat) : Int), (↑(117 : Nat) : Int), (↑(116 : Nat) : Int), (↑(115 : Nat) : Int)],
  Prod.fst (encodeF (Val.mk (Val.k v) (Val.n v) (Val.b v) (Val.l v)))])) (2 : Nat) (0 : Int) = List.getD d (2 : Nat) (0 : Int) ∧ List.getD (shaF (List.flatten [[(6 : Int)], [(↑(105 :
  Nat) : Int), (↑(110 : Nat) : Int), (↑(112 : Nat) : Int), (↑(117 : Nat) : Int), (↑(116 : Nat) : Int), (↑(115 : Nat) : Int)], Prod.fst (encodeF (Val.mk (Val.k v) (Val.n v) (Val.b v)
  (Val.l v)))])) (3 : Nat) (0 : Int) = List.getD d (3 : Nat) (0 : Int) ∧ List.getD (shaF (List.flatten [[(6 : Int)], [(↑(105 : Nat) : Int), (↑(110 : Nat) : Int), (↑(112 : Nat) :
  Int), (↑(117 : Nat) : Int), (↑(116 : Nat) : Int), (↑(115 : Nat) : Int)], Prod.fst (encodeF (Val.mk (Val.k v) (Val.n v) (Val.b v) (Val.l v)))])) (4 : Nat) (0 : Int) = List.getD d (4
  : Nat) (0 : Int) ∧ List.getD (shaF (List.flatten [[(6 : Int)], [(↑(105 : Nat) : Int), (↑(110 : Nat) : Int), (↑(112 : Nat) : Int), (↑(117 : Nat) : Int), (↑(116 : Nat) : Int), (↑(115
  : Nat) : Int)], Prod.fst (encodeF (Val.mk (Val.k v) (Val.n v) (Val.b v) (Val.l v)))])) (5 : Nat) (0 : Int) = List.getD d (5 : Nat) (0 : Int) ∧ List.getD (shaF (List.flatten [[(6 :
  Int)], [(↑(105 : Nat) : Int), (↑(110 : Nat) : Int), (↑(112 : Nat) : Int), (↑(117 : Nat) : Int), (↑(116 : Nat) : Int), (↑(115 : Nat) : Int)], Prod.fst (encodeF (Val.mk (Val.k v)
  (Val.n v) (Val.b v) (Val.l v)))])) (6 : Nat) (0 : Int) = List.getD d (6 : Nat) (0 : Int) ∧ List.getD (shaF (List.flatten [[(6 : Int)], [(↑(105 : Nat) : Int), (↑(110 : Nat) : Int),
  (↑(112 : Nat) : Int), (↑(117 : Nat) : Int), (↑(116 : Nat) : Int), (↑(115 : Nat) : Int)], Prod.fst (encodeF (Val.mk (Val.k v) (Val.n v) (Val.b v) (Val.l v)))])) (7 : Nat) (0 : Int)
  = List.getD d (7 : Nat) (0 : Int) ∧ List.getD (shaF (List.flatten [[(6 : Int)], [(↑(105 : Nat) : Int), (↑(110 : Nat) : Int), (↑(112 : Nat) : Int), (↑(117 : Nat) : Int), (↑(116 :
  Nat) : Int), (↑(115 : Nat) : Int)], Prod.fst (encodeF (Val.mk (Val.k v) (Val.n v) (Val.b v) (Val.l v)))])) (8 : Nat) (0 : Int) = List.getD d (8 : Nat) (0 : Int) ∧ List.getD (shaF
  (List.flatten [[(6 : Int)], [(↑(105 : Nat) : Int), (↑(110 : Nat) : Int), (↑(112 : Nat) : Int), (↑(117 : Nat) : Int), (↑(116 : Nat) : Int), (↑(115 : Nat) : Int)], Prod.fst (encodeF
  (Val.mk (Val.k v) (Val.n v) (Val.b v) (Val.l v)))])) (9 : Nat) (0 : Int) = List.getD d (9 : Nat) (0 : Int) ∧ List.getD (shaF (List.flatten [[(6 : Int)], [(↑(105 : Nat) : Int),
  (↑(110 : Nat) : Int), (↑(112 : Nat) : Int), (↑(117 : Nat) : Int), (↑(116 : Nat) : Int), (↑(115 : Nat) : Int)], Prod.fst (encodeF (Val.mk (Val.k v) (Val.n v) (Val.b v) (Val.l
  v)))])) (10 : Nat) (0 : Int) = List.getD d (10 : Nat) (0 : Int) ∧ List.getD (shaF (List.flatten [[(6 : Int)], [(↑(105 : Nat) : Int), (↑(110 : Nat) : Int), (↑(112 : Nat) : Int),
  (↑(117 : Nat) : Int), (↑(116 : Nat) : Int), (↑(115 : Nat) : Int)], Prod.fst (encodeF (Val.mk (Val.k v) (Val.n v) (Val.b v) (Val.l v)))])) (11 : Nat) (0 : Int) = List.getD d (11 :
  Nat) (0 : Int) ∧ List.getD (shaF (List.flatten [[(6 : Int)], [(↑(105 : Nat) : Int), (↑(110 : Nat) : Int), (↑(112 : Nat) : Int), (↑(117 : Nat) : Int), (↑(116 : Nat) : Int), (↑(115 :
  Nat) : Int)], Prod.fst (encodeF (Val.mk (Val.k v) (Val.n v) (Val.b v) (Val.l v)))])) (12 : Nat) (0 : Int) = List.getD d (12 : Nat) (0 : Int) ∧ List.getD (shaF (List.flatten [[(6 :
  Int)], [(↑(105 : Nat) : Int), (↑(110 : Nat) : Int), (↑(112 : Nat) : Int), (↑(117 : Nat) : Int), (↑(116 : Nat) : Int), (↑(115 : Nat) : Int)], Prod.fst (encodeF (Val.mk (Val.k v)
  (Val.n v) (Val.b v) (Val.l v)))])) (13 : Nat) (0 : Int) = List.getD d (13 : Nat) (0 : Int) ∧ List.getD (shaF (List.flatten [[(6 : Int)], [(↑(105 : Nat) : Int), (↑(110 : Nat) :
  Int), (↑(112 : Nat) : Int), (↑(117 : Nat) : Int), (↑(116 : Nat) : Int), (↑(115 : Nat) : Int)], Prod.fst (encodeF (Val.mk (Val.k v) (Val.n v) (Val.b v) (Val.l v)))])) (14 : Nat) (0
  : Int) = List.getD d (14 : Nat) (0 : Int) ∧ List.getD (shaF (List.flatten [[(6 : Int)], [(↑(105 : Nat) : Int), (↑(110 : Nat) : Int), (↑(112 : Nat) : Int), (↑(117 : Nat) : Int),
  (↑(116 : Nat) : Int), (↑(115 : Nat) : Int)], Prod.fst (encodeF (Val.mk (Val.k v) (Val.n v) (Val.b v) (Val.l v)))])) (15 : Nat) (0 : Int) = List.getD d (15 : Nat) (0 : Int) ∧
  List.getD (shaF (List.flatten [[(6 : Int)], [(↑(105 : Nat) : Int), (↑(110 : Nat) : Int), (↑(112 : Nat) : Int), (↑(117 : Nat) : Int), (↑(116 : Nat) : Int), (↑(115 : Nat) : Int)],
  Prod.fst (encodeF (Val.mk (Val.k v) (Val.n v) (Val.b v) (Val.l v)))])) (16 : Nat) (0 : Int) = List.getD d (16 : Nat) (0 : Int) ∧ List.getD (shaF (List.flatten [[(6 : Int)], [(↑(105
  : Nat) : Int), (↑(110 : Nat) : Int), (↑(112 : Nat) : Int), (↑(117 : Nat) : Int), (↑(116 : Nat) : Int), (↑(115 : Nat) : Int)], Prod.fst (encodeF (Val.mk (Val.k v) (Val.n v) (Val.b
  v) (Val.l v)))])) (17 : Nat) (0 : Int) = List.getD d (17 : Nat) (0 : Int) ∧ List.getD (shaF (List.flatten [[(6 : Int)], [(↑(105 : Nat) : Int), (↑(110 : Nat) : Int), (↑(112 : Nat) :
  Int), (↑(117 : Nat) : Int), (↑(116 : Nat) : Int), (↑(115 : Nat) : Int)], Prod.fst (encodeF (Val.mk (Val.k v) (Val.n v) (Val.b v) (Val.l v)))])) (18 : Nat) (0 : Int) = List.getD d
  (18 : Nat) (0 : Int) ∧ List.getD (shaF (List.flatten [[(6 : Int)], [(↑(105 : Nat) : Int), (↑(110 : Nat) : Int), (↑(112 : Nat) : Int), (↑(117 : Nat) : Int), (↑(116 : Nat) : Int),
  (↑(115 : Nat) : Int)], Prod.fst (encodeF (Val.mk (Val.k v) (Val.n v) (Val.b v) (Val.l v)))])) (19 : Nat) (0 : Int) = List.getD d (19 : Nat) (0 : Int) ∧ List.getD (shaF
  (List.flatten [[(6 : Int)], [(↑(105 : Nat) : Int), (↑(110 : Nat) : Int), (↑(112 : Nat) : Int), (↑(117 : Nat) : Int), (↑(116 : Nat) : Int), (↑(115 : Nat) : Int)], Prod.fst (encodeF
  (Val.mk (Val.k v) (Val.n v) (Val.b v) (Val.l v)))])) (20 : Nat) (0 : Int) = List.getD d (20 : Nat) (0 : Int) ∧ List.getD (shaF (List.flatten [[(6 : Int)], [(↑(105 : Nat) : Int),
  (↑(110 : Nat) : Int), (↑(112 : Nat) : Int), (↑(117 : Nat) : Int), (↑(116 : Nat) : Int), (↑(115 : Nat) : Int)], Prod.fst (encodeF (Val.mk (Val.k v) (Val.n v) (Val.b v) (Val.l
  v)))])) (21 : Nat) (0 : Int) = List.getD d (21 : Nat) (0 : Int) ∧ List.getD (shaF (List.flatten [[(6 : Int)], [(↑(105 : Nat) : Int), (↑(110 : Nat) : Int), (↑(112 : Nat) : Int),
  (↑(117 : Nat) : Int), (↑(116 : Nat) : Int), (↑(115 : Nat) : Int)], Prod.fst (encodeF (Val.mk (Val.k v) (Val.n v) (Val.b v) (Val.l v)))])) (22 : Nat) (0 : Int) = List.getD d (22 :
  Nat) (0 : Int) ∧ List.getD (shaF (List.flatten [[(6 : Int)], [(↑(105 : Nat) : Int), (↑(110 : Nat) : Int), (↑(112 : Nat) : Int), (↑(117 : Nat) : Int), (↑(116 : Nat) : Int), (↑(115 :
  Nat) : Int)], Prod.fst (encodeF (Val.mk (Val.k v) (Val.n v) (Val.b v) (Val.l v)))])) (23 : Nat) (0 : Int) = List.getD d (23 : Nat) (0 : Int) ∧ List.getD (shaF (List.flatten [[(6 :
  Int)], [(↑(105 : Nat) : Int), (↑(110 : Nat) : Int), (↑(112 : Nat) : Int), (↑(117 : Nat) : Int), (↑(116 : Nat) : Int), (↑(115 : Nat) : Int)], Prod.fst (encodeF (Val.mk (Val.k v)
  (Val.n v) (Val.b v) (Val.l v)))])) (24 : Nat) (0 : Int) = List.getD d (24 : Nat) (0 : Int) ∧ List.getD (shaF (List.flatten [[(6 : Int)], [(↑(105 : Nat) : Int), (↑(110 : Nat) :
  Int), (↑(112 : Nat) : Int), (↑(117 : Nat) : Int), (↑(116 : Nat) : Int), (↑(115 : Nat) : Int)], Prod.fst (encodeF (Val.mk (Val.k v) (Val.n v) (Val.b v) (Val.l v)))])) (25 : Nat) (0
  : Int) = List.getD d (25 : Nat) (0 : Int) ∧ List.getD (shaF (List.flatten [[(6 : Int)], [(↑(105 : Nat) : Int), (↑(110 : Nat) : Int), (↑(112 : Nat) : Int), (↑(117 : Nat) : Int),
  (↑(116 : Nat) : Int), (↑(115 : Nat) : Int)], Prod.fst (encodeF (Val.mk (Val.k v) (Val.n v) (Val.b v) (Val.l v)))])) (26 : Nat) (0 : Int) = List.getD d (26 : Nat) (0 : Int) ∧
  List.getD (shaF (List.flatten [[(6 : Int)], [(↑(105 : Nat) : Int), (↑(110 : Nat) : Int), (↑(112 : Nat) : Int), (↑(117 : Nat) : Int), (↑(116 : Nat) : Int), (↑(115 : Nat) : Int)],
  Prod.fst (encodeF (Val.mk (Val.k v) (Val.n v) (Val.b v) (Val.l v)))])) (27 : Nat) (0 : Int) = List.getD d (27 : Nat) (0 : Int) ∧ List.getD (shaF (List.flatten [[(6 : Int)], [(↑(105
  : Nat) : Int), (↑(110 : Nat) : Int), (↑(112 : Nat) : Int), (↑(117 : Nat) : Int), (↑(116 : Nat) : Int), (↑(115 : Nat) : Int)], Prod.fst (encodeF (Val.mk (Val.k v) (Val.n v) (Val.b
  v) (Val.l v)))])) (28 : Nat) (0 : Int) = List.getD d (28 : Nat) (0 : Int) ∧ List.getD (shaF (List.flatten [[(6 : Int)], [(↑(105 : Nat) : Int), (↑(110 : Nat) : Int), (↑(112 : Nat) :
  Int), (↑(117 : Nat) : Int), (↑(116 : Nat) : Int), (↑(115 : Nat) : Int)], Prod.fst (encodeF (Val.mk (Val.k v) (Val.n v) (Val.b v) (Val.l v)))])) (29 : Nat) (0 : Int) = List.getD d
  (29 : Nat) (0 : Int) ∧ List.getD (shaF (List.flatten [[(6 : Int)], [(↑(105 : Nat) : Int), (↑(110 : Nat) : Int), (↑(112 : Nat) : Int), (↑(117 : Nat) : Int), (↑(116 : Nat) : Int),
  (↑(115 : Nat) : Int)], Prod.fst (encodeF (Val.mk (Val.k v) (Val.n v) (Val.b v) (Val.l v)))])) (30 : Nat) (0 : Int) = List.getD d (30 : Nat) (0 : Int) ∧ List.getD (shaF
  (List.flatten [[(6 : Int)], [(↑(105 : Nat) : Int), (↑(110 : Nat) : Int), (↑(112 : Nat) : Int), (↑(117 : Nat) : Int), (↑(116 : Nat) : Int), (↑(115 : Nat) : Int)], Prod.fst (encodeF
  (Val.mk (Val.k v) (Val.n v) (Val.b v) (Val.l v)))])) (31 : Nat) (0 : Int) = List.getD d (31 : Nat) (0 : Int) ∧ True
  ) := by kernel_rfl
--@end
--@cond hash3 | 41 | E2:Fdig | 400 | (v : Val) | [.str true ⟨#[115, 116, 97, 116, 101]⟩, .agg (encF false .vals v)] | (d : List Int) | dig32 d
theorem cond_hash3 (v : Val) (d : List Int) : callF E2 Fdig (vc E2 Fdig 400) 41 [.str true ⟨#[115, 116, 97, 116, 101]⟩, .agg (encF false .vals v)] hp0 0 (fun r => ret E2 (patch hp0 0 r) r.v (dig32 d)) = (
  OkV (Val.mk (Val.k v) (Val.n v) (Val.b v) (Val.l v)) ∧ PartsOk [[(5 : Int)], [(↑(115 : Nat) : Int), (↑(116 : Nat) : Int), (↑(97 : Nat) : Int), (↑(116 : Nat) : Int), (↑(101 : Nat) :
  Int)], Prod.fst (encodeF (Val.mk (Val.k v) (Val.n v) (Val.b v) (Val.l v)))] ∧ List.getD (shaF (List.flatten [[(5 : Int)], [(↑(115 : Nat) : Int), (↑(116 : Nat) : Int), (↑(97 : Nat)
  : Int), (↑(116 : Nat) : Int), (↑(101 : Nat) : Int)], Prod.fst (encodeF (Val.mk (Val.k v) (Val.n v) (Val.b v) (Val.l v)))])) (0 : Nat) (0 : Int) = List.getD d (0 : Nat) (0 : Int) ∧
  List.getD (shaF (List.flatten [[(5 : Int)], [(↑(115 : Nat) : Int), (↑(116 : Nat) : Int), (↑(97 : Nat) : Int), (↑(116 : Nat) : Int), (↑(101 : Nat) : Int)], Prod.fst (encodeF (Val.mk
  (Val.k v) (Val.n v) (Val.b v) (Val.l v)))])) (1 : Nat) (0 : Int) = List.getD d (1 : Nat) (0 : Int) ∧ List.getD (shaF (List.flatten [[(5 : Int)], [(↑(115 : Nat) : Int), (↑(116 :
  Nat) : Int), (↑(97 : Nat) : Int), (↑(116 : Nat) : Int), (↑(101 : Nat) : Int)], Prod.fst (encodeF (Val.mk (Val.k v) (Val.n v) (Val.b v) (Val.l v)))])) (2 : Nat) (0 : Int) =
  List.getD d (2 : Nat) (0 : Int) ∧ List.getD (shaF (List.flatten [[(5 : Int)], [(↑(115 : Nat) : Int), (↑(116 : Nat) : Int), (↑(97 : Nat) : Int), (↑(116 : Nat) : Int), (↑(101 : Nat)
  : Int)], Prod.fst (encodeF (Val.mk (Val.k v) (Val.n v) (Val.b v) (Val.l v)))])) (3 : Nat) (0 : Int) = List.getD d (3 : Nat) (0 : Int) ∧ List.getD (shaF (List.flatten [[(5 : Int)],
  [(↑(115 : Nat) : Int), (↑(116 : Nat) : Int), (↑(97 : Nat) : Int), (↑(116 : Nat) : Int), (↑(101 : Nat) : Int)], Prod.fst (encodeF (Val.mk (Val.k v) (Val.n v) (Val.b v) (Val.l
  v)))])) (4 : Nat) (0 : Int) = List.getD d (4 : Nat) (0 : Int) ∧ List.getD (shaF (List.flatten [[(5 : Int)], [(↑(115 : Nat) : Int), (↑(116 : Nat) : Int), (↑(97 : Nat) : Int), (↑(116
  : Nat) : Int), (↑(101 : Nat) : Int)], Prod.fst (encodeF (Val.mk (Val.k v) (Val.n v) (Val.b v) (Val.l v)))])) (5 : Nat) (0 : Int) = List.getD d (5 : Nat) (0 : Int) ∧ List.getD (shaF
  (List.flatten [[(5 : Int)], [(↑(115 : Nat) : Int), (↑(116 : Nat) : Int), (↑(97 : Nat) : Int), (↑(116 : Nat) : Int), (↑(101 : Nat) : Int)], Prod.fst (encodeF (Val.mk (Val.k v)
  (Val.n v) (Val.b v) (Val.l v)))])) (6 : Nat) (0 : Int) = List.getD d (6 : Nat) (0 : Int) ∧ List.getD (shaF (List.flatten [[(5 : Int)], [(↑(115 : Nat) : Int), (↑(116 : Nat) : Int),
  (↑(97 : Nat) : Int), (↑(116 : Nat) : Int), (↑(101 : Nat) : Int)], Prod.fst (encodeF (Val.mk (Val.k v) (Val.n v) (Val.b v) (Val.l v)))])) (7 : Nat) (0 : Int) = List.getD d (7 : Nat)
  (0 : Int) ∧ List.getD (shaF (List.flatten [[(5 : Int)], [(↑(115 : Nat) : Int), (↑(116 : Nat) : Int), (↑(97 : Nat) : Int), (↑(116 : Nat) : Int), (↑(101 : Nat) : Int)], Prod.fst
  (encodeF (Val.mk (Val.k v) (Val.n v) (Val.b v) (Val.l v)))])) (8 : Nat) (0 : Int) = List.getD d (8 : Nat) (0 : Int) ∧ List.getD (shaF (List.flatten [[(5 : Int)], [(↑(115 : Nat) :
  Int), (↑(116 : Nat) : Int), (↑(97 : Nat) : Int), (↑(116 : Nat) : Int), (↑(101 : Nat) : Int)], Prod.fst (encodeF (Val.mk (Val.k v) (Val.n v) (Val.b v) (Val.l v)))])) (9 : Nat) (0 :
  Int) = List.getD d (9 : Nat) (0 : Int) ∧ List.getD (shaF (List.flatten [[(5 : Int)], [(↑(115 : Nat) : Int), (↑(116 : Nat) : Int), (↑(97 : Nat) : Int), (↑(116 : Nat) : Int), (↑(101
  : Nat) : Int)], Prod.fst (encodeF (Val.mk (Val.k v) (Val.n v) (Val.b v) (Val.l v)))])) (10 : Nat) (0 : Int) = List.getD d (10 : Nat) (0 : Int) ∧ List.getD (shaF (List.flatten [[(5
  : Int)], [(↑(115 : Nat) : Int), (↑(116 : Nat) : Int), (↑(97 : Nat) : Int), (↑(116 : Nat) : Int), (↑(101 : Nat) : Int)], Prod.fst (encodeF (Val.mk (Val.k v) (Val.n v) (Val.b v)
  (Val.l v)))])) (11 : Nat) (0 : Int) = List.getD d (11 : Nat) (0 : Int) ∧ List.getD (shaF (List.flatten [[(5 : Int)], [(↑(115 : Nat) : Int), (↑(116 : Nat) : Int), (↑(97 : Nat) :
  Int), (↑(116 : Nat) : Int), (↑(101 : Nat) : Int)], Prod.fst (encodeF (Val.mk (Val.k v) (Val.n v) (Val.b v) (Val.l v)))])) (12 : Nat) (0 : Int) = List.getD d (12 : Nat) (0 : Int) ∧
  List.getD (shaF (List.flatten [[(5 : Int)], [(↑(115 : Nat) : Int), (↑(116 : Nat) : Int), (↑(97 : Nat) : Int), (↑(116 : Nat) : Int), (↑(101 : Nat) : Int)], Prod.fst (encodeF (Val.mk
  (Val.k v) (Val.n v) (Val.b v) (Val.l v)))])) (13 : Nat) (0 : Int) = List.getD d (13 : Nat) (0 : Int) ∧ List.getD (shaF (List.flatten [[(5 : Int)], [(↑(115 : Nat) : Int), (↑(116 :
  Nat) : Int), (↑(97 : Nat) : Int), (↑(116 : Nat) : Int), (↑(101 : Nat) : Int)], Prod.fst (encodeF (Val.mk (Val.k v) (Val.n v) (Val.b v) (Val.l v)))])) (14 : Nat) (0 : Int) =
  List.getD d (14 : Nat) (0 : Int) ∧ List.getD (shaF (List.flatten [[(5 : Int)], [(↑(115 : Nat) : Int), (↑(116 : Nat) : Int), (↑(97 : Nat) : Int), (↑(116 : Nat) : Int), (↑(101 : Nat)
  : Int)], Prod.fst (encodeF (Val.mk (Val.k v) (Val.n v) (Val.b v) (Val.l v)))])) (15 : Nat) (0 : Int) = List.getD d (15 : Nat) (0 : Int) ∧ List.getD (shaF (List.flatten [[(5 :
  Int)], [(↑(115 : Nat) : Int), (↑(116 : Nat) : Int), (↑(97 : Nat) : Int), (↑(116 : Nat) : Int), (↑(101 : Nat) : Int)], Prod.fst (encodeF (Val.mk (Val.k v) (Val.n v) (Val.b v) (Val.l
  v)))])) (16 : Nat) (0 : Int) = List.getD d (16 : Nat) (0 : Int) ∧ List.getD (shaF (List.flatten [[(5 : Int)], [(↑(115 : Nat) : Int), (↑(116 : Nat) : Int), (↑(97 : Nat) : Int),
  (↑(116 : Nat) : Int), (↑(101 : Nat) : Int)], Prod.fst (encodeF (Val.mk (Val.k v) (Val.n v) (Val.b v) (Val.l v)))])) (17 : Nat) (0 : Int) = List.getD d (17 : Nat) (0 : Int) ∧
  List.getD (shaF (List.flatten [[(5 : Int)], [(↑(115 : Nat) : Int), (↑(116 : Nat) : Int), (↑(97 : Nat) : Int), (↑(116 : Nat) : Int), (↑(101 : Nat) : Int)], Prod.fst (encodeF (Val.mk
  (Val.k v) (Val.n v) (Val.b v) (Val.l v)))])) (18 : Nat) (0 : Int) = List.getD d (18 : Nat) (0 : Int) ∧ List.getD (shaF (List.flatten [[(5 : Int)], [(↑(115 : Nat) : Int), (↑(116 :
  Nat) : Int), (↑(97 : Nat) : Int), (↑(116 : Nat) : Int), (↑(101 : Nat) : Int)], Prod.fst (encodeF (Val.mk (Val.k v) (Val.n v) (Val.b v) (Val.l v)))])) (19 : Nat) (0 : Int) =
  List.getD d (19 : Nat) (0 : Int) ∧ List.getD (shaF (List.flatten [[(5 : Int)], [(↑(115 : Nat) : Int), (↑(116 : Nat) : Int), (↑(97 : Nat) : Int), (↑(116 : Nat) : Int), (↑(101 : Nat)
  : Int)], Prod.fst (encodeF (Val.mk (Val.k v) (Val.n v) (Val.b v) (Val.l v)))])) (20 : Nat) (0 : Int) = List.getD d (20 : Nat) (0 : Int) ∧ List.getD (shaF (List.flatten [[(5 :
  Int)], [(↑(115 : Nat) : Int), (↑(116 : Nat) : Int), (↑(97 : Nat) : Int), (↑(116 : Nat) : Int), (↑(101 : Nat) : Int)], Prod.fst (encodeF (Val.mk (Val.k v) (Val.n v) (Val.b v) (Val.l
  v)))])) (21 : Nat) (0 : Int) = List.getD d (21 : Nat) (0 : Int) ∧ List.getD (shaF (List.flatten [[(5 : Int)], [(↑(115 : Nat) : Int), (↑(116 : Nat) : Int), (↑(97 : Nat) : Int),
  (↑(116 : Nat) : Int), (↑(101 : Nat) : Int)], Prod.fst (encodeF (Val.mk (Val.k v) (Val.n v) (Val.b v) (Val.l v)))])) (22 : Nat) (0 : Int) = List.getD d (22 : Nat) (0 : Int) ∧
  List.getD (shaF (List.flatten [[(5 : Int)], [(↑(115 : Nat) : Int), (↑(116 : Nat) : Int), (↑(97 : Nat) : Int), (↑(116 : Nat) : Int), (↑(101 : Nat) : Int)], Prod.fst (encodeF (Val.mk
  (Val.k v) (Val.n v) (Val.b v) (Val.l v)))])) (23 : Nat) (0 : Int) = List.getD d (23 : Nat) (0 : Int) ∧ List.getD (shaF (List.flatten [[(5 : Int)], [(↑(115 : Nat) : Int), (↑(116 :
  Nat) : Int), (↑(97 : Nat) : Int), (↑(116 : Nat) : Int), (↑(101 : Nat) : Int)], Prod.fst (encodeF (Val.mk (Val.k v) (Val.n v) (Val.b v) (Val.l v)))])) (24 : Nat) (0 : Int) =
  List.getD d (24 : Nat) (0 : Int) ∧ List.getD (shaF (List.flatten [[(5 : Int)], [(↑(115 : Nat) : Int), (↑(116 : Nat) : Int), (↑(97 : Nat) : Int), (↑(116 : Nat) : Int), (↑(101 : Nat)
  : Int)], Prod.fst (encodeF (Val.mk (Val.k v) (Val.n v) (Val.b v) (Val.l v)))])) (25 : Nat) (0 : Int) = List.getD d (25 : Nat) (0 : Int) ∧ List.getD (shaF (List.flatten [[(5 :
  Int)], [(↑(115 : Nat) : Int), (↑(116 : Nat) : Int), (↑(97 : Nat) : Int), (↑(116 : Nat) : Int), (↑(101 : Nat) : Int)], Prod.fst (encodeF (Val.mk (Val.k v) (Val.n v) (Val.b v) (Val.l
  v)))])) (26 : Nat) (0 : Int) = List.getD d (26 : Nat) (0 : Int) ∧ List.getD (shaF (List.flatten [[(5 : Int)], [(↑(115 : Nat) : Int), (↑(116 : Nat) : Int), (↑(97 : Nat) : Int),
  (↑(116 : Nat) : Int), (↑(101 : Nat) : Int)], Prod.fst (encodeF (Val.mk (Val.k v) (Val.n v) (Val.b v) (Val.l v)))])) (27 : Nat) (0 : Int) = List.getD d (27 : Nat) (0 : Int) ∧
  List.getD (shaF (List.flatten [[(5 : Int)], [(↑(115 : Nat) : Int), (↑(116 : Nat) : Int), (↑(97 : Nat) : Int), (↑(116 : Nat) : Int), (↑(101 : Nat) : Int)], Prod.fst (encodeF (Val.mk
  (Val.k v) (Val.n v) (Val.b v) (Val.l v)))])) (28 : Nat) (0 : Int) = List.getD d (28 : Nat) (0 : Int) ∧ List.getD (shaF (List.flatten [[(5 : Int)], [(↑(115 : Nat) : Int), (↑(116 :
  Nat) : Int), (↑(97 : Nat) : Int), (↑(116 : Nat) : Int), (↑(101 : Nat) : Int)], Prod.fst (encodeF (Val.mk (Val.k v) (Val.n v) (Val.b v) (Val.l v)))])) (29 : Nat) (0 : Int) =
  List.getD d (29 : Nat) (0 : Int) ∧ List.getD (shaF (List.flatten [[(5 : Int)], [(↑(115 : Nat) : Int), (↑(116 : Nat) : Int), (↑(97 : Nat) : Int), (↑(116 : Nat) : Int), (↑(101 : Nat)
  : Int)], Prod.fst (encodeF (Val.mk (Val.k v) (Val.n v) (Val.b v) (Val.l v)))])) (30 : Nat) (0 : Int) = List.getD d (30 : Nat) (0 : Int) ∧ List.getD (shaF (List.flatten [[(5 :
  Int)], [(↑(115 : Nat) : Int), (↑(116 : Nat) : Int), (↑(97 : Nat) : Int), (↑(116 : Nat) : Int), (↑(101 : Nat) : Int)], Prod.fst (encodeF (Val.mk (Val.k v) (Val.n v) (Val.b v) (Val.l
  v)))])) (31 : Nat) (0 : Int) = List.getD d (31 : Nat) (0 : Int) ∧ True
  ) := by kernel_rfl
--@end
--@cond value0 | 22 | E2:Fdig | 400 | (v : Val) | [.str true ⟨#[115, 116, 97, 99, 107]⟩, .agg (encF false .vals v)] | (d : List Int) (e : Int) | .tup [dig32 d, .int false .i64 e]
theorem cond_value0 (v : Val) (d : List Int) (e : Int) : callF E2 Fdig (vc E2 Fdig 400) 22 [.str true ⟨#[115, 116, 97, 99, 107]⟩, .agg (encF false .vals v)] hp0 0 (fun r => ret E2 (patch hp0 0 r) r.v (.tup [dig32 d, .int false .i64 e])) = (
  OkV (Val.mk (Val.k v) (Val.n v) (Val.b v) (Val.l v)) ∧ ((Prod.snd (encodeF (Val.mk (Val.k v) (Val.n v) (Val.b v) (Val.l v))) != (0 : Int)) = true → ((0 : Int) = List.getD d (0 :
  Nat) (0 : Int) ∧ (0 : Int) = List.getD d (1 : Nat) (0 : Int) ∧ (0 : Int) = List.getD d (2 : Nat) (0 : Int) ∧ (0 : Int) = List.getD d (3 : Nat) (0 : Int) ∧ (0 : Int) = List.getD d
  (4 : Nat) (0 : Int) ∧ (0 : Int) = List.getD d (5 : Nat) (0 : Int) ∧ (0 : Int) = List.getD d (6 : Nat) (0 : Int) ∧ (0 : Int) = List.getD d (7 : Nat) (0 : Int) ∧ (0 : Int) =
  List.getD d (8 : Nat) (0 : Int) ∧ (0 : Int) = List.getD d (9 : Nat) (0 : Int) ∧ (0 : Int) = List.getD d (10 : Nat) (0 : Int) ∧ (0 : Int) = List.getD d (11 : Nat) (0 : Int) ∧ (0 :
  Int) = List.getD d (12 : Nat) (0 : Int) ∧ (0 : Int) = List.getD d (13 : Nat) (0 : Int) ∧ (0 : Int) = List.getD d (14 : Nat) (0 : Int) ∧ (0 : Int) = List.getD d (15 : Nat) (0 : Int)
  ∧ (0 : Int) = List.getD d (16 : Nat) (0 : Int) ∧ (0 : Int) = List.getD d (17 : Nat) (0 : Int) ∧ (0 : Int) = List.getD d (18 : Nat) (0 : Int) ∧ (0 : Int) = List.getD d (19 : Nat) (0
  : Int) ∧ (0 : Int) = List.getD d (20 : Nat) (0 : Int) ∧ (0 : Int) = List.getD d (21 : Nat) (0 : Int) ∧ (0 : Int) = List.getD d (22 : Nat) (0 : Int) ∧ (0 : Int) = List.getD d (23 :
  Nat) (0 : Int) ∧ (0 : Int) = List.getD d (24 : Nat) (0 : Int) ∧ (0 : Int) = List.getD d (25 : Nat) (0 : Int) ∧ (0 : Int) = List.getD d (26 : Nat) (0 : Int) ∧ (0 : Int) = List.getD
  d (27 : Nat) (0 : Int) ∧ (0 : Int) = List.getD d (28 : Nat) (0 : Int) ∧ (0 : Int) = List.getD d (29 : Nat) (0 : Int) ∧ (0 : Int) = List.getD d (30 : Nat) (0 : Int) ∧ (0 : Int) =
  List.getD d (31 : Nat) (0 : Int) ∧ True) ∧ Prod.snd (encodeF (Val.mk (Val.k v) (Val.n v) (Val.b v) (Val.l v))) = e ∧ True) ∧ ((Prod.snd (encodeF (Val.mk (Val.k v) (Val.n v) (Val.b
  v) (Val.l v))) != (0 : Int)) = false → PartsOk [[(5 : Int)], [(↑(115 : Nat) : Int), (↑(116 : Nat) : Int), (↑(97 : Nat) : Int), (↑(99 : Nat) : Int), (↑(107 : Nat) : Int)], Prod.fst
  (encodeF (Val.mk (Val.k v) (Val.n v) (Val.b v) (Val.l v)))] ∧ (List.getD (shaF (List.flatten [[(5 : Int)], [(↑(115 : Nat) : Int), (↑(116 : Nat) : Int), (↑(97 : Nat) : Int), (↑(99 :
  Nat) : Int), (↑(107 : Nat) : Int)], Prod.fst (encodeF (Val.mk (Val.k v) (Val.n v) (Val.b v) (Val.l v)))])) (0 : Nat) (0 : Int) = List.getD d (0 : Nat) (0 : Int) ∧ List.getD (shaF
  (List.flatten [[(5 : Int)], [(↑(115 : Nat) : Int), (↑(116 : Nat) : Int), (↑(97 : Nat) : Int), (↑(99 : Nat) : Int), (↑(107 : Nat) : Int)], Prod.fst (encodeF (Val.mk (Val.k v) (Val.n
  v) (Val.b v) (Val.l v)))])) (1 : Nat) (0 : Int) = List.getD d (1 : Nat) (0 : Int) ∧ List.getD (shaF (List.flatten [[(5 : Int)], [(↑(115 : Nat) : Int), (↑(116 : Nat) : Int), (↑(97 :
  Nat) : Int), (↑(99 : Nat) : Int), (↑(107 : Nat) : Int)], Prod.fst (encodeF (Val.mk (Val.k v) (Val.n v) (Val.b v) (Val.l v)))])) (2 : Nat) (0 : Int) = List.getD d (2 : Nat) (0 :
  Int) ∧ List.getD (shaF (List.flatten [[(5 : Int)], [(↑(115 : Nat) : Int), (↑(116 : Nat) : Int), (↑(97 : Nat) : Int), (↑(99 : Nat) : Int), (↑(107 : Nat) : Int)], Prod.fst (encodeF
  (Val.mk (Val.k v) (Val.n v) (Val.b v) (Val.l v)))])) (3 : Nat) (0 : Int) = List.getD d (3 : Nat) (0 : Int) ∧ List.getD (shaF (List.flatten [[(5 : Int)], [(↑(115 : Nat) : Int),
  (↑(116 : Nat) : Int), (↑(97 : Nat) : Int), (↑(99 : Nat) : Int), (↑(107 : Nat) : Int)], Prod.fst (encodeF (Val.mk (Val.k v) (Val.n v) (Val.b v) (Val.l v)))])) (4 : Nat) (0 : Int) =
  List.getD d (4 : Nat) (0 : Int) ∧ List.getD (shaF (List.flatten [[(5 : Int)], [(↑(115 : Nat) : Int), (↑(116 : Nat) : Int), (↑(97 : Nat) : Int), (↑(99 : Nat) : Int), (↑(107 : Nat) :
  Int)], Prod.fst (encodeF (Val.mk (Val.k v) (Val.n v) (Val.b v) (Val.l v)))])) (5 : Nat) (0 : Int) = List.getD d (5 : Nat) (0 : Int) ∧ List.getD (shaF (List.flatten [[(5 : Int)],
  [(↑(115 : Nat) : Int), (↑(116 : Nat) : Int), (↑(97 : Nat) : Int), (↑(99 : Nat) : Int), (↑(107 : Nat) : Int)], Prod.fst (encodeF (Val.mk (Val.k v) (Val.n v) (Val.b v) (Val.l v)))]))
  (6 : Nat) (0 : Int) = List.getD d (6 : Nat) (0 : Int) ∧ List.getD (shaF (List.flatten [[(5 : Int)], [(↑(115 : Nat) : Int), (↑(116 : Nat) : Int), (↑(97 : Nat) : Int), (↑(99 : Nat) :
  Int), (↑(107 : Nat) : Int)], Prod.fst (encodeF (Val.mk (Val.k v) (Val.n v) (Val.b v) (Val.l v)))])) (7 : Nat) (0 : Int) = List.getD d (7 : Nat) (0 : Int) ∧ List.getD (shaF
  (List.flatten [[(5 : Int)], [(↑(115 : Nat) : Int), (↑(116 : Nat) : Int), (↑(97 : Nat) : Int), (↑(99 : Nat) : Int), (↑(107 : Nat) : Int)], Prod.fst (encodeF (Val.mk (Val.k v) (Val.n
  v) (Val.b v) (Val.l v)))])) (8 : Nat) (0 : Int) = List.getD d (8 : Nat) (0 : Int) ∧ List.getD (shaF (List.flatten [[(5 : Int)], [(↑(115 : Nat) : Int), (↑(116 : Nat) : Int), (↑(97 :
  Nat) : Int), (↑(99 : Nat) : Int), (↑(107 : Nat) : Int)], Prod.fst (encodeF (Val.mk (Val.k v) (Val.n v) (Val.b v) (Val.l v)))])) (9 : Nat) (0 : Int) = List.getD d (9 : Nat) (0 :
  Int) ∧ List.getD (shaF (List.flatten [[(5 : Int)], [(↑(115 : Nat) : Int), (↑(116 : Nat) : Int), (↑(97 : Nat) : Int), (↑(99 : Nat) : Int), (↑(107 : Nat) : Int)], Prod.fst (encodeF
  (Val.mk (Val.k v) (Val.n v) (Val.b v) (Val.l v)))])) (10 : Nat) (0 : Int) = List.getD d (10 : Nat) (0 : Int) ∧ List.getD (shaF (List.flatten [[(5 : Int)], [(↑(115 : Nat) : Int),
  (↑(116 : Nat) : Int), (↑(97 : Nat) : Int), (↑(99 : Nat) : Int), (↑(107 : Nat) : Int)], Prod.fst (encodeF (Val.mk (Val.k v) (Val.n v) (Val.b v) (Val.l v)))])) (11 : Nat) (0 : Int) =
  List.getD d (11 : Nat) (0 : Int) ∧ List.getD (shaF (List.flatten [[(5 : Int)], [(↑(115 : Nat) : Int), (↑(116 : Nat) : Int), (↑(97 : Nat) : Int), (↑(99 : Nat) : Int), (↑(107 : Nat)
  : Int)], Prod.fst (encodeF (Val.mk (Val.k v) (Val.n v) (Val.b v) (Val.l v)))])) (12 : Nat) (0 : Int) = List.getD d (12 : Nat) (0 : Int) ∧ List.getD (shaF (List.flatten [[(5 :
  Int)], [(↑(115 : Nat) : Int), (↑(116 : Nat) : Int), (↑(97 : Nat) : Int), (↑(99 : Nat) : Int), (↑(107 : Nat) : Int)], Prod.fst (encodeF (Val.mk (Val.k v) (Val.n v) (Val.b v) (Val.l
  v)))])) (13 : Nat) (0 : Int) = List.getD d (13 : Nat) (0 : Int) ∧ List.getD (shaF (List.flatten [[(5 : Int)], [(↑(115 : Nat) : Int), (↑(116 : Nat) : Int), (↑(97 : Nat) : Int),
  (↑(99 : Nat) : Int), (↑(107 : Nat) : Int)], Prod.fst (encodeF (Val.mk (Val.k v) (Val.n v) (Val.b v) (Val.l v)))])) (14 : Nat) (0 : Int) = List.getD d (14 : Nat) (0 : Int) ∧
  List.getD (shaF (List.flatten [[(5 : Int)], [(↑(115 : Nat) : Int), (↑(116 : Nat) : Int), (↑(97 : Nat) : Int), (↑(99 : Nat) : Int), (↑(107 : Nat) : Int)], Prod.fst (encodeF (Val.mk
  (Val.k v) (Val.n v) (Val.b v) (Val.l v)))])) (15 : Nat) (0 : Int) = List.getD d (15 : Nat) (0 : Int) ∧ List.getD (shaF (List.flatten [[(5 : Int)], [(↑(115 : Nat) : Int), (↑(116 :
  Nat) : Int), (↑(97 : Nat) : Int), (↑(99 : Nat) : Int), (↑(107 : Nat) : Int)], Prod.fst (encodeF (Val.mk (Val.k v) (Val.n v) (Val.b v) (Val.l v)))])) (16 : Nat) (0 : Int) =
  List.getD d (16 : Nat) (0 : Int) ∧ List.getD (shaF (List.flatten [[(5 : Int)], [(↑(115 : Nat) : Int), (↑(116 : Nat) : Int), (↑(97 : Nat) : Int), (↑(99 : Nat) : Int), (↑(107 : Nat)
  : Int)], Prod.fst (encodeF (Val.mk (Val.k v) (Val.n v) (Val.b v) (Val.l v)))])) (17 : Nat) (0 : Int) = List.getD d (17 : Nat) (0 : Int) ∧ List.getD (shaF (List.flatten [[(5 :
  Int)], [(↑(115 : Nat) : Int), (↑(116 : Nat) : Int), (↑(97 : Nat) : Int), (↑(99 : Nat) : Int), (↑(107 : Nat) : Int)], Prod.fst (encodeF (Val.mk (Val.k v) (Val.n v) (Val.b v) (Val.l
  v)))])) (18 : Nat) (0 : Int) = List.getD d (18 : Nat) (0 : Int) ∧ List.getD (shaF (List.flatten [[(5 : Int)], [(↑(115 : Nat) : Int), (↑(116 : Nat) : Int), (↑(97 : Nat) : Int),
  (↑(99 : Nat) : Int), (↑(107 : Nat) : Int)], Prod.fst (encodeF (Val.mk (Val.k v) (Val.n v) (Val.b v) (Val.l v)))])) (19 : Nat) (0 : Int) = List.getD d (19 : Nat) (0 : Int) ∧
  List.getD (shaF (List.flatten [[(5 : Int)], [(↑(115 : Nat) : Int), (↑(116 : Nat) : Int), (↑(97 : Nat) : Int), (↑(99 : Nat) : Int), (↑(107 : Nat) : Int)], Prod.fst (encodeF (Val.mk
  (Val.k v) (Val.n v) (Val.b v) (Val.l v)))])) (20 : Nat) (0 : Int) = List.getD d (20 : Nat) (0 : Int) ∧ List.getD (shaF (List.flatten [[(5 : Int)], [(↑(115 : Nat) : Int), (↑(116 :
  Nat) : Int), (↑(97 : Nat) : Int), (↑(99 : Nat) : Int), (↑(107 : Nat) : Int)], Prod.fst (encodeF (Val.mk (Val.k v) (Val.n v) (Val.b v) (Val.l v)))])) (21 : Nat) (0 : Int) =
  List.getD d (21 : Nat) (0 : Int) ∧ List.getD (shaF (List.flatten [[(5 : Int)], [(↑(115 : Nat) : Int), (↑(116 : Nat) : Int), (↑(97 : Nat) : Int), (↑(99 : Nat) : Int), (↑(107 : Nat)
  : Int)], Prod.fst (encodeF (Val.mk (Val.k v) (Val.n v) (Val.b v) (Val.l v)))])) (22 : Nat) (0 : Int) = List.getD d (22 : Nat) (0 : Int) ∧ List.getD (shaF (List.flatten [[(5 :
  Int)], [(↑(115 : Nat) : Int), (↑(116 : Nat) : Int), (↑(97 : Nat) : Int), (↑(99 : Nat) : Int), (↑(107 : Nat) : Int)], Prod.fst (encodeF (Val.mk (Val.k v) (Val.n v) (Val.b v) (Val.l
  v)))])) (23 : Nat) (0 : Int) = List.getD d (23 : Nat) (0 : Int) ∧ List.getD (shaF (List.flatten [[(5 : Int)], [(↑(115 : Nat) : Int), (↑(116 : Nat) : Int), (↑(97 : Nat) : Int),
  (↑(99 : Nat) : Int), (↑(107 : Nat) : Int)], Prod.fst (encodeF (Val.mk (Val.k v) (Val.n v) (Val.b v) (Val.l v)))])) (24 : Nat) (0 : Int) = List.getD d (24 : Nat) (0 : Int) ∧
  List.getD (shaF (List.flatten [[(5 : Int)], [(↑(115 : Nat) : Int), (↑(116 : Nat) : Int), (↑(97 : Nat) : Int), (↑(99 : Nat) : Int), (↑(107 : Nat) : Int)], Prod.fst (encodeF (Val.mk
  (Val.k v) (Val.n v) (Val.b v) (Val.l v)))])) (25 : Nat) (0 : Int) = List.getD d (25 : Nat) (0 : Int) ∧ List.getD (shaF (List.flatten [[(5 : Int)], [(↑(115 : Nat) : Int), (↑(116 :
  Nat) : Int), (↑(97 : Nat) : Int), (↑(99 : Nat) : Int), (↑(107 : Nat) : Int)], Prod.fst (encodeF (Val.mk (Val.k v) (Val.n v) (Val.b v) (Val.l v)))])) (26 : Nat) (0 : Int) =
  List.getD d (26 : Nat) (0 : Int) ∧ List.getD (shaF (List.flatten [[(5 : Int)], [(↑(115 : Nat) : Int), (↑(116 : Nat) : Int), (↑(97 : Nat) : Int), (↑(99 : Nat) : Int), (↑(107 : Nat)
  : Int)], Prod.fst (encodeF (Val.mk (Val.k v) (Val.n v) (Val.b v) (Val.l v)))])) (27 : Nat) (0 : Int) = List.getD d (27 : Nat) (0 : Int) ∧ List.getD (shaF (List.flatten [[(5 :
  Int)], [(↑(115 : Nat) : Int), (↑(116 : Nat) : Int), (↑(97 : Nat) : Int), (↑(99 : Nat) : Int), (↑(107 : Nat) : Int)], Prod.fst (encodeF (Val.mk (Val.k v) (Val.n v) (Val.b v) (Val.l
  v)))])) (28 : Nat) (0 : Int) = List.getD d (28 : Nat) (0 : Int) ∧ List.getD (shaF (List.flatten [[(5 : Int)], [(↑(115 : Nat) : Int), (↑(116 : Nat) : Int), (↑(97 : Nat) : Int),
  (↑(99 : Nat) : Int), (↑(107 : Nat) : Int)], Prod.fst (encodeF (Val.mk (Val.k v) (Val.n v) (Val.b v) (Val.l v)))])) (29 : Nat) (0 : Int) = List.getD d (29 : Nat) (0 : Int) ∧
  List.getD (shaF (List.flatten [[(5 : Int)], [(↑(115 : Nat) : Int), (↑(116 : Nat) : Int), (↑(97 : Nat) : Int), (↑(99 : Nat) : Int), (↑(107 : Nat) : Int)], Prod.fst (encodeF (Val.mk
  (Val.k v) (Val.n v) (Val.b v) (Val.l v)))])) (30 : Nat) (0 : Int) = List.getD d (30 : Nat) (0 : Int) ∧ List.getD (shaF (List.flatten [[(5 : Int)], [(↑(115 : Nat) : Int), (↑(116 :
  Nat) : Int), (↑(97 : Nat) : Int), (↑(99 : Nat) : Int), (↑(107 : Nat) : Int)], Prod.fst (encodeF (Val.mk (Val.k v) (Val.n v) (Val.b v) (Val.l v)))])) (31 : Nat) (0 : Int) =
  List.getD d (31 : Nat) (0 : Int) ∧ True) ∧ (0 : Int) = e ∧ True)
  ) := by kernel_rfl
--@end
--@cond value1 | 22 | E2:Fdig | 400 | (v : Val) | [.str true ⟨#[112, 114, 111, 103, 114, 97, 109]⟩, .agg (encF false .vals v)] | (d : List Int) (e : Int) | .tup [dig32 d, .int false .i64 e]
theorem cond_value1 (v : Val) (d : List Int) (e : Int) : callF E2 Fdig (vc E2 Fdig 400) 22 [.str true ⟨#[112, 114, 111, 103, 114, 97, 109]⟩, .agg (encF false .vals v)] hp0 0 (fun r => ret E2 (patch hp0 0 r) r.v (.tup [dig32 d, .int false .i64 e])) = (
  OkV (Val.mk (Val.k v) (Val.n v) (Val.b v) (Val.l v)) ∧ ((Prod.snd (encodeF (Val.mk (Val.k v) (Val.n v) (Val.b v) (Val.l v))) != (0 : Int)) = true → ((0 : Int) = List.getD d (0 :
  Nat) (0 : Int) ∧ (0 : Int) = List.getD d (1 : Nat) (0 : Int) ∧ (0 : Int) = List.getD d (2 : Nat) (0 : Int) ∧ (0 : Int) = List.getD d (3 : Nat) (0 : Int) ∧ (0 : Int) = List.getD d
  (4 : Nat) (0 : Int) ∧ (0 : Int) = List.getD d (5 : Nat) (0 : Int) ∧ (0 : Int) = List.getD d (6 : Nat) (0 : Int) ∧ (0 : Int) = List.getD d (7 : Nat) (0 : Int) ∧ (0 : Int) =
  List.getD d (8 : Nat) (0 : Int) ∧ (0 : Int) = List.getD d (9 : Nat) (0 : Int) ∧ (0 : Int) = List.getD d (10 : Nat) (0 : Int) ∧ (0 : Int) = List.getD d (11 : Nat) (0 : Int) ∧ (0 :
  Int) = List.getD d (12 : Nat) (0 : Int) ∧ (0 : Int) = List.getD d (13 : Nat) (0 : Int) ∧ (0 : Int) = List.getD d (14 : Nat) (0 : Int) ∧ (0 : Int) = List.getD d (15 : Nat) (0 : Int)
  ∧ (0 : Int) = List.getD d (16 : Nat) (0 : Int) ∧ (0 : Int) = List.getD d (17 : Nat) (0 : Int) ∧ (0 : Int) = List.getD d (18 : Nat) (0 : Int) ∧ (0 : Int) = List.getD d (19 : Nat) (0
  : Int) ∧ (0 : Int) = List.getD d (20 : Nat) (0 : Int) ∧ (0 : Int) = List.getD d (21 : Nat) (0 : Int) ∧ (0 : Int) = List.getD d (22 : Nat) (0 : Int) ∧ (0 : Int) = List.getD d (23 :
  Nat) (0 : Int) ∧ (0 : Int) = List.getD d (24 : Nat) (0 : Int) ∧ (0 : Int) = List.getD d (25 : Nat) (0 : Int) ∧ (0 : Int) = List.getD d (26 : Nat) (0 : Int) ∧ (0 : Int) = List.getD
  d (27 : Nat) (0 : Int) ∧ (0 : Int) = List.getD d (28 : Nat) (0 : Int) ∧ (0 : Int) = List.getD d (29 : Nat) (0 : Int) ∧ (0 : Int) = List.getD d (30 : Nat) (0 : Int) ∧ (0 : Int) =
  List.getD d (31 : Nat) (0 : Int) ∧ True) ∧ Prod.snd (encodeF (Val.mk (Val.k v) (Val.n v) (Val.b v) (Val.l v))) = e ∧ True) ∧ ((Prod.snd (encodeF (Val.mk (Val.k v) (Val.n v) (Val.b
  v) (Val.l v))) != (0 : Int)) = false → PartsOk [[(7 : Int)], [(↑(112 : Nat) : Int), (↑(114 : Nat) : Int), (↑(111 : Nat) : Int), (↑(103 : Nat) : Int), (↑(114 : Nat) : Int), (↑(97 :
  Nat) : Int), (↑(109 : Nat) : Int)], Prod.fst (encodeF (Val.mk (Val.k v) (Val.n v) (Val.b v) (Val.l v)))] ∧ (List.getD (shaF (List.flatten [[(7 : Int)], [(↑(112 : Nat) : Int),
  (↑(114 : Nat) : Int), (↑(111 : Nat) : Int), (↑(103 : Nat) : Int), (↑(114 : Nat) : Int), (↑(97 : Nat) : Int), (↑(109 : Nat) : Int)], Prod.fst (encodeF (Val.mk (Val.k v) (Val.n v)
  (Val.b v) (Val.l v)))])) (0 : Nat) (0 : Int) = List.getD d (0 : Nat) (0 : Int) ∧ List.getD (shaF (List.flatten [[(7 : Int)], [(↑(112 : Nat) : Int), (↑(114 : Nat) : Int), (↑(111 :
  Nat) : Int), (↑(103 : Nat) : Int), (↑(114 : Nat) : Int), (↑(97 : Nat) : Int), (↑(109 : Nat) : Int)], Prod.fst (encodeF (Val.mk (Val.k v) (Val.n v) (Val.b v) (Val.l v)))])) (1 :
  Nat) (0 : Int) = List.getD d (1 : Nat) (0 : Int) ∧ List.getD (shaF (List.flatten [[(7 : Int)], [(↑(112 : Nat) : Int), (↑(114 : Nat) : Int), (↑(111 : Nat) : Int), (↑(103 : Nat) :
  Int), (↑(114 : Nat) : Int), (↑(97 : Nat) : Int), (↑(109 : Nat) : Int)], Prod.fst (encodeF (Val.mk (Val.k v) (Val.n v) (Val.b v) (Val.l v)))])) (2 : Nat) (0 : Int) = List.getD d (2
  : Nat) (0 : Int) ∧ List.getD (shaF (List.flatten [[(7 : Int)], [(↑(112 : Nat) : Int), (↑(114 : Nat) : Int), (↑(111 : Nat) : Int), (↑(103 : Nat) : Int), (↑(114 : Nat) : Int), (↑(97
  : Nat) : Int), (↑(109 : Nat) : Int)], Prod.fst (encodeF (Val.mk (Val.k v) (Val.n v) (Val.b v) (Val.l v)))])) (3 : Nat) (0 : Int) = List.getD d (3 : Nat) (0 : Int) ∧ List.getD (shaF
  (List.flatten [[(7 : Int)], [(↑(112 : Nat) : Int), (↑(114 : Nat) : Int), (↑(111 : Nat) : Int), (↑(103 : Nat) : Int), (↑(114 : Nat) : Int), (↑(97 : Nat) : Int), (↑(109 : Nat) :
  Int)], Prod.fst (encodeF (Val.mk (Val.k v) (Val.n v) (Val.b v) (Val.l v)))])) (4 : Nat) (0 : Int) = List.getD d (4 : Nat) (0 : Int) ∧ List.getD (shaF (List.flatten [[(7 : Int)],
  [(↑(112 : Nat) : Int), (↑(114 : Nat) : Int), (↑(111 : Nat) : Int), (↑(103 : Nat) : Int), (↑(114 : Nat) : Int), (↑(97 : Nat) : Int), (↑(109 : Nat) : Int)], Prod.fst (encodeF (Val.mk
  (Val.k v) (Val.n v) (Val.b v) (Val.l v)))])) (5 : Nat) (0 : Int) = List.getD d (5 : Nat) (0 : Int) ∧ List.getD (shaF (List.flatten [[(7 : Int)], [(↑(112 : Nat) : Int), (↑(114 :
  Nat) : Int), (↑(111 : Nat) : Int), (↑(103 : Nat) : Int), (↑(114 : Nat) : Int), (↑(97 : Nat) : Int), (↑(109 : Nat) : Int)], Prod.fst (encodeF (Val.mk (Val.k v) (Val.n v) (Val.b v)
  (Val.l v)))])) (6 : Nat) (0 : Int) = List.getD d (6 : Nat) (0 : Int) ∧ List.getD (shaF (List.flatten [[(7 : Int)], [(↑(112 : Nat) : Int), (↑(114 : Nat) : Int), (↑(111 : Nat) :
  Int), (↑(103 : Nat) : Int), (↑(114 : Nat) : Int), (↑(97 : Nat) : Int), (↑(109 : Nat) : Int)], Prod.fst (encodeF (Val.mk (Val.k v) (Val.n v) (Val.b v) (Val.l v)))])) (7 : Nat) (0 :
  Int) = List.getD d (7 : Nat) (0 : Int) ∧ List.getD (shaF (List.flatten [[(7 : Int)], [(↑(112 : Nat) : Int), (↑(114 : Nat) : Int), (↑(111 : Nat) : Int), (↑(103 : Nat) : Int), (↑(114
  : Nat) : Int), (↑(97 : Nat) : Int), (↑(109 : Nat) : Int)], Prod.fst (encodeF (Val.mk (Val.k v) (Val.n v) (Val.b v) (Val.l v)))])) (8 : Nat) (0 : Int) = List.getD d (8 : Nat) (0 :
  Int) ∧ List.getD (shaF (List.flatten [[(7 : Int)], [(↑(112 : Nat) : Int), (↑(114 : Nat) : Int), (↑(111 : Nat) : Int), (↑(103 : Nat) : Int), (↑(114 : Nat) : Int), (↑(97 : Nat) :
  Int), (↑(109 : Nat) : Int)], Prod.fst (encodeF (Val.mk (Val.k v) (Val.n v) (Val.b v) (Val.l v)))])) (9 : Nat) (0 : Int) = List.getD d (9 : Nat) (0 : Int) ∧ List.getD (shaF
  (List.flatten [[(7 : Int)], [(↑(112 : Nat) : Int), (↑(114 : Nat) : Int), (↑(111 : Nat) : Int), (↑(103 : Nat) : Int), (↑(114 : Nat) : Int), (↑(97 : Nat) : Int), (↑(109 : Nat) :
  Int)], Prod.fst (encodeF (Val.mk (Val.k v) (Val.n v) (Val.b v) (Val.l v)))])) (10 : Nat) (0 : Int) = List.getD d (10 : Nat) (0 : Int) ∧ List.getD (shaF (List.flatten [[(7 : Int)],
  [(↑(112 : Nat) : Int), (↑(114 : Nat) : Int), (↑(111 : Nat) : Int), (↑(103 : Nat) : Int), (↑(114 : Nat) : Int), (↑(97 : Nat) : Int), (↑(109 : Nat) : Int)], Prod.fst (encodeF (Val.mk
  (Val.k v) (Val.n v) (Val.b v) (Val.l v)))])) (11 : Nat) (0 : Int) = List.getD d (11 : Nat) (0 : Int) ∧ List.getD (shaF (List.flatten [[(7 : Int)], [(↑(112 : Nat) : Int), (↑(114 :
  Nat) : Int), (↑(111 : Nat) : Int), (↑(103 : Nat) : Int), (↑(114 : Nat) : Int), (↑(97 : Nat) : Int), (↑(109 : Nat) : Int)], Prod.fst (encodeF (Val.mk (Val.k v) (Val.n v) (Val.b v)
  (Val.l v)))])) (12 : Nat) (0 : Int) = List.getD d (12 : Nat) (0 : Int) ∧ List.getD (shaF (List.flatten [[(7 : Int)], [(↑(112 : Nat) : Int), (↑(114 : Nat) : Int), (↑(111 : Nat) :
  Int), (↑(103 : Nat) : Int), (↑(114 : Nat) : Int), (↑(97 : Nat) : Int), (↑(109 : Nat) : Int)], Prod.fst (encodeF (Val.mk (Val.k v) (Val.n v) (Val.b v) (Val.l v)))])) (13 : Nat) (0 :
  Int) = List.getD d (13 : Nat) (0 : Int) ∧ List.getD (shaF (List.flatten [[(7 : Int)], [(↑(112 : Nat) : Int), (↑(114 : Nat) : Int), (↑(111 : Nat) : Int), (↑(103 : Nat) : Int),
  (↑(114 : Nat) : Int), (↑(97 : Nat) : Int), (↑(109 : Nat) : Int)], Prod.fst (encodeF (Val.mk (Val.k v) (Val.n v) (Val.b v) (Val.l v)))])) (14 : Nat) (0 : Int) = List.getD d (14 :
  Nat) (0 : Int) ∧ List.getD (shaF (List.flatten [[(7 : Int)], [(↑(112 : Nat) : Int), (↑(114 : Nat) : Int), (↑(111 : Nat) : Int), (↑(103 : Nat) : Int), (↑(114 : Nat) : Int), (↑(97 :
  Nat) : Int), (↑(109 : Nat) : Int)], Prod.fst (encodeF (Val.mk (Val.k v) (Val.n v) (Val.b v) (Val.l v)))])) (15 : Nat) (0 : Int) = List.getD d (15 : Nat) (0 : Int) ∧ List.getD (shaF
  (List.flatten [[(7 : Int)], [(↑(112 : Nat) : Int), (↑(114 : Nat) : Int), (↑(111 : Nat) : Int), (↑(103 : Nat) : Int), (↑(114 : Nat) : Int), (↑(97 : Nat) : Int), (↑(109 : Nat) :
  Int)], Prod.fst (encodeF (Val.mk (Val.k v) (Val.n v) (Val.b v) (Val.l v)))])) (16 : Nat) (0 : Int) = List.getD d (16 : Nat) (0 : Int) ∧ List.getD (shaF (List.flatten [[(7 : Int)],
  [(↑(112 : Nat) : Int), (↑(114 : Nat) : Int), (↑(111 : Nat) : Int), (↑(103 : Nat) : Int), (↑(114 : Nat) : Int), (↑(97 : Nat) : Int), (↑(109 : Nat) : Int)], Prod.fst (encodeF (Val.mk
  (Val.k v) (Val.n v) (Val.b v) (Val.l v)))])) (17 : Nat) (0 : Int) = List.getD d (17 : Nat) (0 : Int) ∧ List.getD (shaF (List.flatten [[(7 : Int)], [(↑(112 : Nat) : Int), (↑(114 :
  Nat) : Int), (↑(111 : Nat) : Int), (↑(103 : Nat) : Int), (↑(114 : Nat) : Int), (↑(97 : Nat) : Int), (↑(109 : Nat) : Int)], Prod.fst (encodeF (Val.mk (Val.k v) (Val.n v) (Val.b v)
  (Val.l v)))])) (18 : Nat) (0 : Int) = List.getD d (18 : Nat) (0 : Int) ∧ List.getD (shaF (List.flatten [[(7 : Int)], [(↑(112 : Nat) : Int), (↑(114 : Nat) : Int), (↑(111 : Nat) :
  Int), (↑(103 : Nat) : Int), (↑(114 : Nat) : Int), (↑(97 : Nat) : Int), (↑(109 : Nat) : Int)], Prod.fst (encodeF (Val.mk (Val.k v) (Val.n v) (Val.b v) (Val.l v)))])) (19 : Nat) (0 :
  Int) = List.getD d (19 : Nat) (0 : Int) ∧ List.getD (shaF (List.flatten [[(7 : Int)], [(↑(112 : Nat) : Int), (↑(114 : Nat) : Int), (↑(111 : Nat) : Int), (↑(103 : Nat) : Int),
  (↑(114 : Nat) : Int), (↑(97 : Nat) : Int), (↑(109 : Nat) : Int)], Prod.fst (encodeF (Val.mk (Val.k v) (Val.n v) (Val.b v) (Val.l v)))])) (20 : Nat) (0 : Int) = List.getD d (20 :
  Nat) (0 : Int) ∧ List.getD (shaF (List.flatten [[(7 : Int)], [(↑(112 : Nat) : Int), (↑(114 : Nat) : Int), (↑(111 : Nat) : Int), (↑(103 : Nat) : Int), (↑(114 : Nat) : Int), (↑(97 :
  Nat) : Int), (↑(109 : Nat) : Int)], Prod.fst (encodeF (Val.mk (Val.k v) (Val.n v) (Val.b v) (Val.l v)))])) (21 : Nat) (0 : Int) = List.getD d (21 : Nat) (0 : Int) ∧ List.getD (shaF
  (List.flatten [[(7 : Int)], [(↑(112 : Nat) : Int), (↑(114 : Nat) : Int), (↑(111 : Nat) : Int), (↑(103 : Nat) : Int), (↑(114 : Nat) : Int), (↑(97 : Nat) : Int), (↑(109 : Nat) :
  Int)], Prod.fst (encodeF (Val.mk (Val.k v) (Val.n v) (Val.b v) (Val.l v)))])) (22 : Nat) (0 : Int) = List.getD d (22 : Nat) (0 : Int) ∧ List.getD (shaF (List.flatten [[(7 : Int)],
  [(↑(112 : Nat) : Int), (↑(114 : Nat) : Int), (↑(111 : Nat) : Int), (↑(103 : Nat) : Int), (↑(114 : Nat) : Int), (↑(97 : Nat) : Int), (↑(109 : Nat) : Int)], Prod.fst (encodeF (Val.mk
  (Val.k v) (Val.n v) (Val.b v) (Val.l v)))])) (23 : Nat) (0 : Int) = List.getD d (23 : Nat) (0 : Int) ∧ List.getD (shaF (List.flatten [[(7 : Int)], [(↑(112 : Nat) : Int), (↑(114 :
  Nat) : Int), (↑(111 : Nat) : Int), (↑(103 : Nat) : Int), (↑(114 : Nat) : Int), (↑(97 : Nat) : Int), (↑(109 : Nat) : Int)], Prod.fst (encodeF (Val.mk (Val.k v) (Val.n v) (Val.b v)
  (Val.l v)))])) (24 : Nat) (0 : Int) = List.getD d (24 : Nat) (0 : Int) ∧ List.getD (shaF (List.flatten [[(7 : Int)], [(↑(112 : Nat) : Int), (↑(114 : Nat) : Int), (↑(111 : Nat) :
  Int), (↑(103 : Nat) : Int), (↑(114 : Nat) : Int), (↑(97 : Nat) : Int), (↑(109 : Nat) : Int)], Prod.fst (encodeF (Val.mk (Val.k v) (Val.n v) (Val.b v) (Val.l v)))])) (25 : Nat) (0 :
  Int) = List.getD d (25 : Nat) (0 : Int) ∧ List.getD (shaF (List.flatten [[(7 : Int)], [(↑(112 : Nat) : Int), (↑(114 : Nat) : Int), (↑(111 : Nat) : Int), (↑(103 : Nat) : Int),
  (↑(114 : Nat) : Int), (↑(97 : Nat) : Int), (↑(109 : Nat) : Int)], Prod.fst (encodeF (Val.mk (Val.k v) (Val.n v) (Val.b v) (Val.l v)))])) (26 : Nat) (0 : Int) = List.getD d (26 :
  Nat) (0 : Int) ∧ List.getD (shaF (List.flatten [[(7 : Int)], [(↑(112 : Nat) : Int), (↑(114 : Nat) : Int), (↑(111 : Nat) : Int), (↑(103 : Nat) : Int), (↑(114 : Nat) : Int), (↑(97 :
  Nat) : Int), (↑(109 : Nat) : Int)], Prod.fst (encodeF (Val.mk (Val.k v) (Val.n v) (Val.b v) (Val.l v)))])) (27 : Nat) (0 : Int) = List.getD d (27 : Nat) (0 : Int) ∧ List.getD (shaF
  (List.flatten [[(7 : Int)], [(↑(112 : Nat) : Int), (↑(114 : Nat) : Int), (↑(111 : Nat) : Int), (↑(103 : Nat) : Int), (↑(114 : Nat) : Int), (↑(97 : Nat) : Int), (↑(109 : Nat) :
  Int)], Prod.fst (encodeF (Val.mk (Val.k v) (Val.n v) (Val.b v) (Val.l v)))])) (28 : Nat) (0 : Int) = List.getD d (28 : Nat) (0 : Int) ∧ List.getD (shaF (List.flatten [[(7 : Int)],
  [(↑(112 : Nat) : Int), (↑(114 : Nat) : Int), (↑(111 : Nat) : Int), (↑(103 : Nat) : Int), (↑(114 : Nat) : Int), (↑(97 : Nat) : Int), (↑(109 : Nat) : Int)], Prod.fst (encodeF (Val.mk
  (Val.k v) (Val.n v) (Val.b v) (Val.l v)))])) (29 : Nat) (0 : Int) = List.getD d (29 : Nat) (0 : Int) ∧ List.getD (shaF (List.flatten [[(7 : Int)], [(↑(112 : Nat) : Int), (↑(114 :
  Nat) : Int), (↑(111 : Nat) : Int), (↑(103 : Nat) : Int), (↑(114 : Nat) : Int), (↑(97 : Nat) : Int), (↑(109 : Nat) : Int)], Prod.fst (encodeF (Val.mk (Val.k v) (Val.n v) (Val.b v)
  (Val.l v)))])) (30 : Nat) (0 : Int) = List.getD d (30 : Nat) (0 : Int) ∧ List.getD (shaF (List.flatten [[(7 : Int)], [(↑(112 : Nat) : Int), (↑(114 : Nat) : Int), (↑(111 : Nat) :
  Int), (↑(103 : Nat) : Int), (↑(114 : Nat) : Int), (↑(97 : Nat) : Int), (↑(109 : Nat) : Int)], Prod.fst (encodeF (Val.mk (Val.k v) (Val.n v) (Val.b v) (Val.l v)))])) (31 : Nat) (0 :
  Int) = List.getD d (31 : Nat) (0 : Int) ∧ True) ∧ (0 : Int) = e ∧ True)
  ) := by kernel_rfl
--@end
def tagB : Nat → List Int
  | 0 => [115, 116, 97, 99, 107]
  | 1 => [112, 114, 111, 103, 114, 97, 109]
  | 2 => [105, 110, 112, 117, 116, 115]
  | _ => [115, 116, 97, 116, 101]
/-- the tagged digest of a value -/
noncomputable def hashF (i : Nat) (v : Val) : List Int := shaF [[((tagB i).length : Int)], tagB i, (encodeF v).1].flatten
theorem encodeF_len (v : Val) : (encodeF v).1.length ≤ 65536 := by
  unfold encodeF
  split
  · simp
  · split
    · simp
    · split
      · simp
      · show (encV v).length ≤ _; omega
theorem parts_ok (i : Nat) (v : Val) : PartsOk [[((tagB i).length : Int)], tagB i, (encodeF v).1] := by
  have h1 := encodeF_len v
  have h2 : (tagB i).length ≤ 7 := by unfold tagB; split <;> simp
  refine ⟨⟨_, _, rfl, by simp⟩, ?_, by simp⟩
  simp only [List.flatten_cons, List.flatten_nil, List.length_append, List.length_cons, List.length_nil]
  omega
theorem hash_pure (i : Nat) (hi : i < 4) (v : Val) (hv : OkV v) : PureC E2 41 [.str true (tags.getD i ⟨#[]⟩), .agg (encF false .vals v)] (dig32 (hashF i v)) := by
  have hp := parts_ok i v
  match i, hi with
  | 0, _ =>
    refine pure_of_call E2_ok (callOk_of E2_ok Fdig_ok 400) ?_
    show callF E2 Fdig (vc E2 Fdig 400) 41 [.str true ⟨#[115, 116, 97, 99, 107]⟩, .agg (encF false .vals v)] hp0 0 _
    rw [cond_hash0, val_eta]
    exact ⟨hv, hp, rfl, rfl, rfl, rfl, rfl, rfl, rfl, rfl, rfl, rfl, rfl, rfl, rfl, rfl, rfl, rfl, rfl, rfl, rfl, rfl, rfl, rfl, rfl, rfl, rfl, rfl, rfl, rfl, rfl, rfl, rfl, rfl, trivial⟩
  | 1, _ =>
    refine pure_of_call E2_ok (callOk_of E2_ok Fdig_ok 400) ?_
    show callF E2 Fdig (vc E2 Fdig 400) 41 [.str true ⟨#[112, 114, 111, 103, 114, 97, 109]⟩, .agg (encF false .vals v)] hp0 0 _
    rw [cond_hash1, val_eta]
    exact ⟨hv, hp, rfl, rfl, rfl, rfl, rfl, rfl, rfl, rfl, rfl, rfl, rfl, rfl, rfl, rfl, rfl, rfl, rfl, rfl, rfl, rfl, rfl, rfl, rfl, rfl, rfl, rfl, rfl, rfl, rfl, rfl, rfl, rfl, trivial⟩
  | 2, _ =>
    refine pure_of_call E2_ok (callOk_of E2_ok Fdig_ok 400) ?_
    show callF E2 Fdig (vc E2 Fdig 400) 41 [.str true ⟨#[105, 110, 112, 117, 116, 115]⟩, .agg (encF false .vals v)] hp0 0 _
    rw [cond_hash2, val_eta]
    exact ⟨hv, hp, rfl, rfl, rfl, rfl, rfl, rfl, rfl, rfl, rfl, rfl, rfl, rfl, rfl, rfl, rfl, rfl, rfl, rfl, rfl, rfl, rfl, rfl, rfl, rfl, rfl, rfl, rfl, rfl, rfl, rfl, rfl, rfl, trivial⟩
  | 3, _ =>
    refine pure_of_call E2_ok (callOk_of E2_ok Fdig_ok 400) ?_
    show callF E2 Fdig (vc E2 Fdig 400) 41 [.str true ⟨#[115, 116, 97, 116, 101]⟩, .agg (encF false .vals v)] hp0 0 _
    rw [cond_hash3, val_eta]
    exact ⟨hv, hp, rfl, rfl, rfl, rfl, rfl, rfl, rfl, rfl, rfl, rfl, rfl, rfl, rfl, rfl, rfl, rfl, rfl, rfl, rfl, rfl, rfl, rfl, rfl, rfl, rfl, rfl, rfl, rfl, rfl, rfl, rfl, rfl, trivial⟩
def zero32 : List Int := [0, 0, 0, 0, 0, 0, 0, 0, 0, 0, 0, 0, 0, 0, 0, 0, 0, 0, 0, 0, 0, 0, 0, 0, 0, 0, 0, 0, 0, 0, 0, 0]
noncomputable def valueF (i : Nat) (v : Val) : List Int × Int := if (encodeF v).2 ≠ 0 then (zero32, (encodeF v).2) else (hashF i v, 0)
theorem value_pure (i : Nat) (hi : i < 2) (v : Val) (hv : OkV v) : PureC E2 22 [.str true (tags.getD i ⟨#[]⟩), .agg (encF false .vals v)] (.tup [dig32 (valueF i v).1, .int false .i64 (valueF i v).2]) := by
  have hp := parts_ok i v
  match i, hi with
  | 0, _ =>
    refine pure_of_call E2_ok (callOk_of E2_ok Fdig_ok 400) ?_
    show callF E2 Fdig (vc E2 Fdig 400) 22 [.str true ⟨#[115, 116, 97, 99, 107]⟩, .agg (encF false .vals v)] hp0 0 _
    rw [cond_value0, val_eta]
    refine ⟨hv, fun h => ?_, fun h => ?_⟩
    · have h : (encodeF v).2 ≠ 0 := by simpa using h
      unfold valueF
      rw [if_pos h]
      exact ⟨⟨rfl, rfl, rfl, rfl, rfl, rfl, rfl, rfl, rfl, rfl, rfl, rfl, rfl, rfl, rfl, rfl, rfl, rfl, rfl, rfl, rfl, rfl, rfl, rfl, rfl, rfl, rfl, rfl, rfl, rfl, rfl, rfl, trivial⟩, rfl, trivial⟩
    · have h : ¬ (encodeF v).2 ≠ 0 := by simpa using h
      unfold valueF
      rw [if_neg h]
      exact ⟨hp, ⟨rfl, rfl, rfl, rfl, rfl, rfl, rfl, rfl, rfl, rfl, rfl, rfl, rfl, rfl, rfl, rfl, rfl, rfl, rfl, rfl, rfl, rfl, rfl, rfl, rfl, rfl, rfl, rfl, rfl, rfl, rfl, rfl, trivial⟩, rfl, trivial⟩
  | 1, _ =>
    refine pure_of_call E2_ok (callOk_of E2_ok Fdig_ok 400) ?_
    show callF E2 Fdig (vc E2 Fdig 400) 22 [.str true ⟨#[112, 114, 111, 103, 114, 97, 109]⟩, .agg (encF false .vals v)] hp0 0 _
    rw [cond_value1, val_eta]
    refine ⟨hv, fun h => ?_, fun h => ?_⟩
    · have h : (encodeF v).2 ≠ 0 := by simpa using h
      unfold valueF
      rw [if_pos h]
      exact ⟨⟨rfl, rfl, rfl, rfl, rfl, rfl, rfl, rfl, rfl, rfl, rfl, rfl, rfl, rfl, rfl, rfl, rfl, rfl, rfl, rfl, rfl, rfl, rfl, rfl, rfl, rfl, rfl, rfl, rfl, rfl, rfl, rfl, trivial⟩, rfl, trivial⟩
    · have h : ¬ (encodeF v).2 ≠ 0 := by simpa using h
      unfold valueF
      rw [if_neg h]
      exact ⟨hp, ⟨rfl, rfl, rfl, rfl, rfl, rfl, rfl, rfl, rfl, rfl, rfl, rfl, rfl, rfl, rfl, rfl, rfl, rfl, rfl, rfl, rfl, rfl, rfl, rfl, rfl, rfl, rfl, rfl, rfl, rfl, rfl, rfl, trivial⟩, rfl, trivial⟩
end Go.Proofs.YtcaomfbcchemnaaDoor

/- Digests of stacks and programs. -/
namespace Go.Proofs.YtcaomfbcchemnaaDoor
open Go
set_option linter.unusedVariables false
set_option linter.unusedSimpArgs false
def n32 (d : List Int) : List Int := (List.range 32).map fun i => d.getD i 0
def numV (n : Int) : Val := .mk 1 n [] []
def bytV (d : List Int) : Val := .mk 2 0 (n32 d) []
def lisV (l : List Val) : Val := .mk 3 0 [] l
def stackV (n : Int) (d : List Int) : Val := lisV [numV n, bytV d]
def progV (x : Ins) (d : List Int) : Val := lisV [numV x.op, numV x.n, numV x.m, bytV d]
noncomputable def ontoF (d : List Int) (l : List Int) : List Int := l.foldl (fun d n => hashF 0 (stackV n d)) d
noncomputable def stackF (l : List Int) : List Int := ontoF zero32 l
noncomputable def progF (c : List Ins) : List Int := c.foldl (fun d x => hashF 1 (progV x d)) zero32
noncomputable def dTV : DcL E2 (Nat × Val × Unit) := .cons (dTag tags) (.cons (dRow E2_ok Th.vals fun _ _ h => dec_nid (th := Th.vals) h : Dc E2 Val) .nil)
noncomputable def Shash : Sum thy := sumFY E2 gthV 10 dTV (fun x => x.1 < 4 ∧ OkV x.2.1) (fun x => hashF x.1 x.2.1) dig32
theorem Shash_ok : SumOk E2 41 Shash := sumFY_ok E2_ok (good_of (f := 41) rfl) fun x h => hash_pure x.1 h.1 x.2.1 h.2
noncomputable def Svalue : Sum thy := sumFY E2 gthV 10 dTV (fun x => x.1 < 2 ∧ OkV x.2.1) (fun x => valueF x.1 x.2.1) fun y => .tup [dig32 y.1, .int false .i64 y.2]
theorem Svalue_ok : SumOk E2 22 Svalue := sumFY_ok E2_ok (good_of (f := 22) rfl) fun x h => value_pure x.1 h.1 x.2.1 h.2
def Aonto : Fr thy → Hp thy → Nat → Ann thy := fun T h i => { X := DX, fr := fun x => [(2, T 2), (4, T 4), (7, T 7), (8, T 8), (9, .int false .i64 x.k)], bl := fun x => (bOf (T 2), .raw (dig32 x.D).cells 0 none) :: blkP h (T 4), src := fun _ => [], md := [bOf (T 2)], ih := i, M := i + 60, meas := fun x => x.r }
def Aprog : Fr thy → Hp thy → Nat → Ann thy := fun T h i => { X := DX, fr := fun x => [(2, T 2), (5, T 5), (6, T 6), (7, .int false .i64 x.k)], bl := fun x => [(bOf (T 2), .raw (dig32 x.D).cells 0 none)], src := fun _ => [], md := [bOf (T 2)], ih := i, M := i + 60, meas := fun x => x.r }
noncomputable def Fonto : Fns thy := addL (addL (addS F0 41 Shash) 40 2 Aonto E2) 21 2 Aprog E2
theorem Fonto_ok : FnsOk E2 Fonto := addL_ok E2_ok (addL_ok E2_ok (addS_ok F0_ok2 Shash_ok) _ _ _) _ _ _
--@cond onto | 40 | E2:Fonto | 400 | (d l : List Int) | [dig32 d, .psl Th.ints l false] | (z : List Int) | dig32 z
theorem cond_onto (d l : List Int) (z : List Int) : callF E2 Fonto (vc E2 Fonto 400) 40 [dig32 d, .psl Th.ints l false] hp0 0 (fun r => ret E2 (patch hp0 0 r) r.v (dig32 z)) = (
  ∃ (R : DX → Prop), (∃ (x : DX), R x ∧ true = true ∧ ((0 : Nat) = (0 : Nat) ∧ (0 : Nat) = (0 : Nat) ∧ (l = l ∧ (false = true → false = true)) ∧ (↑(List.length l) : Int) =
  (↑(List.length l) : Int) ∧ (0 : Int) = (↑(DX.k x) : Int) ∧ True) ∧ (List.getD d (0 : Nat) (0 : Int) = List.getD (DX.D x) (0 : Nat) (0 : Int) ∧ List.getD d (1 : Nat) (0 : Int) =
  List.getD (DX.D x) (1 : Nat) (0 : Int) ∧ List.getD d (2 : Nat) (0 : Int) = List.getD (DX.D x) (2 : Nat) (0 : Int) ∧ List.getD d (3 : Nat) (0 : Int) = List.getD (DX.D x) (3 : Nat)
  (0 : Int) ∧ List.getD d (4 : Nat) (0 : Int) = List.getD (DX.D x) (4 : Nat) (0 : Int) ∧ List.getD d (5 : Nat) (0 : Int) = List.getD (DX.D x) (5 : Nat) (0 : Int) ∧ List.getD d (6 :
  Nat) (0 : Int) = List.getD (DX.D x) (6 : Nat) (0 : Int) ∧ List.getD d (7 : Nat) (0 : Int) = List.getD (DX.D x) (7 : Nat) (0 : Int) ∧ List.getD d (8 : Nat) (0 : Int) = List.getD
  (DX.D x) (8 : Nat) (0 : Int) ∧ List.getD d (9 : Nat) (0 : Int) = List.getD (DX.D x) (9 : Nat) (0 : Int) ∧ List.getD d (10 : Nat) (0 : Int) = List.getD (DX.D x) (10 : Nat) (0 : Int)
  ∧ List.getD d (11 : Nat) (0 : Int) = List.getD (DX.D x) (11 : Nat) (0 : Int) ∧ List.getD d (12 : Nat) (0 : Int) = List.getD (DX.D x) (12 : Nat) (0 : Int) ∧ List.getD d (13 : Nat)
  (0 : Int) = List.getD (DX.D x) (13 : Nat) (0 : Int) ∧ List.getD d (14 : Nat) (0 : Int) = List.getD (DX.D x) (14 : Nat) (0 : Int) ∧ List.getD d (15 : Nat) (0 : Int) = List.getD
  (DX.D x) (15 : Nat) (0 : Int) ∧ List.getD d (16 : Nat) (0 : Int) = List.getD (DX.D x) (16 : Nat) (0 : Int) ∧ List.getD d (17 : Nat) (0 : Int) = List.getD (DX.D x) (17 : Nat) (0 :
  Int) ∧ List.getD d (18 : Nat) (0 : Int) = List.getD (DX.D x) (18 : Nat) (0 : Int) ∧ List.getD d (19 : Nat) (0 : Int) = List.getD (DX.D x) (19 : Nat) (0 : Int) ∧ List.getD d (20 :
  Nat) (0 : Int) = List.getD (DX.D x) (20 : Nat) (0 : Int) ∧ List.getD d (21 : Nat) (0 : Int) = List.getD (DX.D x) (21 : Nat) (0 : Int) ∧ List.getD d (22 : Nat) (0 : Int) = List.getD
  (DX.D x) (22 : Nat) (0 : Int) ∧ List.getD d (23 : Nat) (0 : Int) = List.getD (DX.D x) (23 : Nat) (0 : Int) ∧ List.getD d (24 : Nat) (0 : Int) = List.getD (DX.D x) (24 : Nat) (0 :
  Int) ∧ List.getD d (25 : Nat) (0 : Int) = List.getD (DX.D x) (25 : Nat) (0 : Int) ∧ List.getD d (26 : Nat) (0 : Int) = List.getD (DX.D x) (26 : Nat) (0 : Int) ∧ List.getD d (27 :
  Nat) (0 : Int) = List.getD (DX.D x) (27 : Nat) (0 : Int) ∧ List.getD d (28 : Nat) (0 : Int) = List.getD (DX.D x) (28 : Nat) (0 : Int) ∧ List.getD d (29 : Nat) (0 : Int) = List.getD
  (DX.D x) (29 : Nat) (0 : Int) ∧ List.getD d (30 : Nat) (0 : Int) = List.getD (DX.D x) (30 : Nat) (0 : Int) ∧ List.getD d (31 : Nat) (0 : Int) = List.getD (DX.D x) (31 : Nat) (0 :
  Int) ∧ True) ∧ ((0 : Int) = (0 : Int) ∧ (0 : Int) = (0 : Int) ∧ (0 : Int) = (0 : Int) ∧ (0 : Int) = (0 : Int) ∧ (0 : Int) = (0 : Int) ∧ (0 : Int) = (0 : Int) ∧ (0 : Int) = (0 :
  Int) ∧ (0 : Int) = (0 : Int) ∧ (0 : Int) = (0 : Int) ∧ (0 : Int) = (0 : Int) ∧ (0 : Int) = (0 : Int) ∧ (0 : Int) = (0 : Int) ∧ (0 : Int) = (0 : Int) ∧ (0 : Int) = (0 : Int) ∧ (0 :
  Int) = (0 : Int) ∧ (0 : Int) = (0 : Int) ∧ (0 : Int) = (0 : Int) ∧ (0 : Int) = (0 : Int) ∧ (0 : Int) = (0 : Int) ∧ (0 : Int) = (0 : Int) ∧ (0 : Int) = (0 : Int) ∧ (0 : Int) = (0 :
  Int) ∧ (0 : Int) = (0 : Int) ∧ (0 : Int) = (0 : Int) ∧ (0 : Int) = (0 : Int) ∧ (0 : Int) = (0 : Int) ∧ (0 : Int) = (0 : Int) ∧ (0 : Int) = (0 : Int) ∧ (0 : Int) = (0 : Int) ∧ (0 :
  Int) = (0 : Int) ∧ (0 : Int) = (0 : Int) ∧ (0 : Int) = (0 : Int) ∧ True) ∧ True) ∧ ∀ (x : DX), R x → (decide ((↑(DX.k x) : Int) < (↑(List.length l) : Int)) = true → (0 : Int) ≤
  (↑(DX.k x) : Int) ∧ (↑(DX.k x) : Int) + (1 : Int) ≤ (↑(List.length l) : Int) ∧ ∀ (x_1 : Int), l[Int.toNat (↑(DX.k x) : Int)]? = some x_1 → ((0 : Nat) + (1 : Nat) ≤ (4 : Nat) ∧ OkV
  (Val.mk (3 : Int) (0 : Int) [] [Val.mk (1 : Int) x_1 [] [], Val.mk (2 : Int) (0 : Int) [List.getD (DX.D x) (0 : Nat) (0 : Int), List.getD (DX.D x) (1 : Nat) (0 : Int), List.getD
  (DX.D x) (2 : Nat) (0 : Int), List.getD (DX.D x) (3 : Nat) (0 : Int), List.getD (DX.D x) (4 : Nat) (0 : Int), List.getD (DX.D x) (5 : Nat) (0 : Int), List.getD (DX.D x) (6 : Nat)
  (0 : Int), List.getD (DX.D x) (7 : Nat) (0 : Int), List.getD (DX.D x) (8 : Nat) (0 : Int), List.getD (DX.D x) (9 : Nat) (0 : Int), List.getD (DX.D x) (10 : Nat) (0 : Int),
  List.getD (DX.D x) (11 : Nat) (0 : Int), List.getD (DX.D x) (12 : Nat) (0 : Int), List.getD (DX.D x) (13 : Nat) (0 : Int), List.getD (DX.D x) (14 : Nat) (0 : Int), List.getD (DX.D
  x) (15 : Nat) (0 : Int), List.getD (DX.D x) (16 : Nat) (0 : Int), List.getD (DX.D x) (17 : Nat) (0 : Int), List.getD (DX.D x) (18 : Nat) (0 : Int), List.getD (DX.D x) (19 : Nat) (0
  : Int), List.getD (DX.D x) (20 : Nat) (0 : Int), List.getD (DX.D x) (21 : Nat) (0 : Int), List.getD (DX.D x) (22 : Nat) (0 : Int), List.getD (DX.D x) (23 : Nat) (0 : Int),
  List.getD (DX.D x) (24 : Nat) (0 : Int), List.getD (DX.D x) (25 : Nat) (0 : Int), List.getD (DX.D x) (26 : Nat) (0 : Int), List.getD (DX.D x) (27 : Nat) (0 : Int), List.getD (DX.D
  x) (28 : Nat) (0 : Int), List.getD (DX.D x) (29 : Nat) (0 : Int), List.getD (DX.D x) (30 : Nat) (0 : Int), List.getD (DX.D x) (31 : Nat) (0 : Int)] []])) ∧ ∀ (y : List Int), y =
  hashF (0 : Nat) (Val.mk (3 : Int) (0 : Int) [] [Val.mk (1 : Int) x_1 [] [], Val.mk (2 : Int) (0 : Int) [List.getD (DX.D x) (0 : Nat) (0 : Int), List.getD (DX.D x) (1 : Nat) (0 :
  Int), List.getD (DX.D x) (2 : Nat) (0 : Int), List.getD (DX.D x) (3 : Nat) (0 : Int), List.getD (DX.D x) (4 : Nat) (0 : Int), List.getD (DX.D x) (5 : Nat) (0 : Int), List.getD
  (DX.D x) (6 : Nat) (0 : Int), List.getD (DX.D x) (7 : Nat) (0 : Int), List.getD (DX.D x) (8 : Nat) (0 : Int), List.getD (DX.D x) (9 : Nat) (0 : Int), List.getD (DX.D x) (10 : Nat)
  (0 : Int), List.getD (DX.D x) (11 : Nat) (0 : Int), List.getD (DX.D x) (12 : Nat) (0 : Int), List.getD (DX.D x) (13 : Nat) (0 : Int), List.getD (DX.D x) (14 : Nat) (0 : Int),
  List.getD (DX.D x) (15 : Nat) (0 : Int), List.getD (DX.D x) (16 : Nat) (0 : Int), List.getD (DX.D x) (17 : Nat) (0 : Int), List.getD (DX.D x) (18 : Nat) (0 : Int), List.getD (DX.D
  x) (19 : Nat) (0 : Int), List.getD (DX.D x) (20 : Nat) (0 : Int), List.getD (DX.D x) (21 : Nat) (0 : Int), List.getD (DX.D x) (22 : Nat) (0 : Int), List.getD (DX.D x) (23 : Nat) (0
  : Int), List.getD (DX.D x) (24 : Nat) (0 : Int), List.getD (DX.D x) (25 : Nat) (0 : Int), List.getD (DX.D x) (26 : Nat) (0 : Int), List.getD (DX.D x) (27 : Nat) (0 : Int),
  List.getD (DX.D x) (28 : Nat) (0 : Int), List.getD (DX.D x) (29 : Nat) (0 : Int), List.getD (DX.D x) (30 : Nat) (0 : Int), List.getD (DX.D x) (31 : Nat) (0 : Int)] []]) → ∃ (x' :
  DX), R x' ∧ x'.2 + (1 : Nat) ≤ x.2 ∧ true = true ∧ ((0 : Nat) = (0 : Nat) ∧ (0 : Nat) = (0 : Nat) ∧ (l = l ∧ (false = true → false = true)) ∧ (↑(List.length l) : Int) =
  (↑(List.length l) : Int) ∧ wr IntKind.i64 ((↑(DX.k x) : Int) + (1 : Int)) = (↑(DX.k x') : Int) ∧ True) ∧ (List.getD y (0 : Nat) (0 : Int) = List.getD (DX.D x') (0 : Nat) (0 : Int)
  ∧ List.getD y (1 : Nat) (0 : Int) = List.getD (DX.D x') (1 : Nat) (0 : Int) ∧ List.getD y (2 : Nat) (0 : Int) = List.getD (DX.D x') (2 : Nat) (0 : Int) ∧ List.getD y (3 : Nat) (0 :
  Int) = List.getD (DX.D x') (3 : Nat) (0 : Int) ∧ List.getD y (4 : Nat) (0 : Int) = List.getD (DX.D x') (4 : Nat) (0 : Int) ∧ List.getD y (5 : Nat) (0 : Int) = List.getD (DX.D x')
  (5 : Nat) (0 : Int) ∧ List.getD y (6 : Nat) (0 : Int) = List.getD (DX.D x') (6 : Nat) (0 : Int) ∧ List.getD y (7 : Nat) (0 : Int) = List.getD (DX.D x') (7 : Nat) (0 : Int) ∧
  List.getD y (8 : Nat) (0 : Int) = List.getD (DX.D x') (8 : Nat) (0 : Int) ∧ List.getD y (9 : Nat) (0 : Int) = List.getD (DX.D x') (9 : Nat) (0 : Int) ∧ List.getD y (10 : Nat) (0 :
  Int) = List.getD (DX.D x') (10 : Nat) (0 : Int) ∧ List.getD y (11 : Nat) (0 : Int) = List.getD (DX.D x') (11 : Nat) (0 : Int) ∧ List.getD y (12 : Nat) (0 : Int) = List.getD (DX.D
  x') (12 : Nat) (0 : Int) ∧ List.getD y (13 : Nat) (0 : Int) = List.getD (DX.D x') (13 : Nat) (0 : Int) ∧ List.getD y (14 : Nat) (0 : Int) = List.getD (DX.D x') (14 : Nat) (0 : Int)
  ∧ List.getD y (15 : Nat) (0 : Int) = List.getD (DX.D x') (15 : Nat) (0 : Int) ∧ List.getD y (16 : Nat) (0 : Int) = List.getD (DX.D x') (16 : Nat) (0 : Int) ∧ List.getD y (17 : Nat)
  (0 : Int) = List.getD (DX.D x') (17 : Nat) (0 : Int) ∧ List.getD y (18 : Nat) (0 : Int) = List.getD (DX.D x') (18 : Nat) (0 : Int) ∧ List.getD y (19 : Nat) (0 : Int) = List.getD
  (DX.D x') (19 : Nat) (0 : Int) ∧ List.getD y (20 : Nat) (0 : Int) = List.getD (DX.D x') (20 : Nat) (0 : Int) ∧ List.getD y (21 : Nat) (0 : Int) = List.getD (DX.D x') (21 : Nat) (0
  : Int) ∧ List.getD y (22 : Nat) (0 : Int) = List.getD (DX.D x') (22 : Nat) (0 : Int) ∧ List.getD y (23 : Nat) (0 : Int) = List.getD (DX.D x') (23 : Nat) (0 : Int) ∧ List.getD y (24
  : Nat) (0 : Int) = List.getD (DX.D x') (24 : Nat) (0 : Int) ∧ List.getD y (25 : Nat) (0 : Int) = List.getD (DX.D x') (25 : Nat) (0 : Int) ∧ List.getD y (26 : Nat) (0 : Int) =
  List.getD (DX.D x') (26 : Nat) (0 : Int) ∧ List.getD y (27 : Nat) (0 : Int) = List.getD (DX.D x') (27 : Nat) (0 : Int) ∧ List.getD y (28 : Nat) (0 : Int) = List.getD (DX.D x') (28
  : Nat) (0 : Int) ∧ List.getD y (29 : Nat) (0 : Int) = List.getD (DX.D x') (29 : Nat) (0 : Int) ∧ List.getD y (30 : Nat) (0 : Int) = List.getD (DX.D x') (30 : Nat) (0 : Int) ∧
  List.getD y (31 : Nat) (0 : Int) = List.getD (DX.D x') (31 : Nat) (0 : Int) ∧ True) ∧ ((0 : Int) = (0 : Int) ∧ (0 : Int) = (0 : Int) ∧ (0 : Int) = (0 : Int) ∧ (0 : Int) = (0 : Int)
  ∧ (0 : Int) = (0 : Int) ∧ (0 : Int) = (0 : Int) ∧ (0 : Int) = (0 : Int) ∧ (0 : Int) = (0 : Int) ∧ (0 : Int) = (0 : Int) ∧ (0 : Int) = (0 : Int) ∧ (0 : Int) = (0 : Int) ∧ (0 : Int)
  = (0 : Int) ∧ (0 : Int) = (0 : Int) ∧ (0 : Int) = (0 : Int) ∧ (0 : Int) = (0 : Int) ∧ (0 : Int) = (0 : Int) ∧ (0 : Int) = (0 : Int) ∧ (0 : Int) = (0 : Int) ∧ (0 : Int) = (0 : Int)
  ∧ (0 : Int) = (0 : Int) ∧ (0 : Int) = (0 : Int) ∧ (0 : Int) = (0 : Int) ∧ (0 : Int) = (0 : Int) ∧ (0 : Int) = (0 : Int) ∧ (0 : Int) = (0 : Int) ∧ (0 : Int) = (0 : Int) ∧ (0 : Int)
  = (0 : Int) ∧ (0 : Int) = (0 : Int) ∧ (0 : Int) = (0 : Int) ∧ (0 : Int) = (0 : Int) ∧ (0 : Int) = (0 : Int) ∧ (0 : Int) = (0 : Int) ∧ True) ∧ True) ∧ (decide ((↑(DX.k x) : Int) <
  (↑(List.length l) : Int)) = false → List.getD (DX.D x) (0 : Nat) (0 : Int) = List.getD z (0 : Nat) (0 : Int) ∧ List.getD (DX.D x) (1 : Nat) (0 : Int) = List.getD z (1 : Nat) (0 :
  Int) ∧ List.getD (DX.D x) (2 : Nat) (0 : Int) = List.getD z (2 : Nat) (0 : Int) ∧ List.getD (DX.D x) (3 : Nat) (0 : Int) = List.getD z (3 : Nat) (0 : Int) ∧ List.getD (DX.D x) (4 :
  Nat) (0 : Int) = List.getD z (4 : Nat) (0 : Int) ∧ List.getD (DX.D x) (5 : Nat) (0 : Int) = List.getD z (5 : Nat) (0 : Int) ∧ List.getD (DX.D x) (6 : Nat) (0 : Int) = List.getD z
  (6 : Nat) (0 : Int) ∧ List.getD (DX.D x) (7 : Nat) (0 : Int) = List.getD z (7 : Nat) (0 : Int) ∧ List.getD (DX.D x) (8 : Nat) (0 : Int) = List.getD z (8 : Nat) (0 : Int) ∧
  List.getD (DX.D x) (9 : Nat) (0 : Int) = List.getD z (9 : Nat) (0 : Int) ∧ List.getD (DX.D x) (10 : Nat) (0 : Int) = List.getD z (10 : Nat) (0 : Int) ∧ List.getD (DX.D x) (11 :
  Nat) (0 : Int) = List.getD z (11 : Nat) (0 : Int) ∧ List.getD (DX.D x) (12 : Nat) (0 : Int) = List.getD z (12 : Nat) (0 : Int) ∧ List.getD (DX.D x) (13 : Nat) (0 : Int) = List.getD
  z (13 : Nat) (0 : Int) ∧ List.getD (DX.D x) (14 : Nat) (0 : Int) = List.getD z (14 : Nat) (0 : Int) ∧ List.getD (DX.D x) (15 : Nat) (0 : Int) = List.getD z (15 : Nat) (0 : Int) ∧
  List.getD (DX.D x) (16 : Nat) (0 : Int) = List.getD z (16 : Nat) (0 : Int) ∧ List.getD (DX.D x) (17 : Nat) (0 : Int) = List.getD z (17 : Nat) (0 : Int) ∧ List.getD (DX.D x) (18 :
  Nat) (0 : Int) = List.getD z (18 : Nat) (0 : Int) ∧ List.getD (DX.D x) (19 : Nat) (0 : Int) = List.getD z (19 : Nat) (0 : Int) ∧ List.getD (DX.D x) (20 : Nat) (0 : Int) = List.getD
  z (20 : Nat) (0 : Int) ∧ List.getD (DX.D x) (21 : Nat) (0 : Int) = List.getD z (21 : Nat) (0 : Int) ∧ List.getD (DX.D x) (22 : Nat) (0 : Int) = List.getD z (22 : Nat) (0 : Int) ∧
  List.getD (DX.D x) (23 : Nat) (0 : Int) = List.getD z (23 : Nat) (0 : Int) ∧ List.getD (DX.D x) (24 : Nat) (0 : Int) = List.getD z (24 : Nat) (0 : Int) ∧ List.getD (DX.D x) (25 :
  Nat) (0 : Int) = List.getD z (25 : Nat) (0 : Int) ∧ List.getD (DX.D x) (26 : Nat) (0 : Int) = List.getD z (26 : Nat) (0 : Int) ∧ List.getD (DX.D x) (27 : Nat) (0 : Int) = List.getD
  z (27 : Nat) (0 : Int) ∧ List.getD (DX.D x) (28 : Nat) (0 : Int) = List.getD z (28 : Nat) (0 : Int) ∧ List.getD (DX.D x) (29 : Nat) (0 : Int) = List.getD z (29 : Nat) (0 : Int) ∧
  List.getD (DX.D x) (30 : Nat) (0 : Int) = List.getD z (30 : Nat) (0 : Int) ∧ List.getD (DX.D x) (31 : Nat) (0 : Int) = List.getD z (31 : Nat) (0 : Int) ∧ True)
  ) := by kernel_rfl
--@end
--@cond prog | 21 | E2:Fonto | 400 | (c : List Ins) | [.psl Th.ins c false] | (z : List Int) | dig32 z
theorem cond_prog (c : List Ins) (z : List Int) : callF E2 Fonto (vc E2 Fonto 400) 21 [.psl Th.ins c false] hp0 0 (fun r => ret E2 (patch hp0 0 r) r.v (dig32 z)) = (
  ∃ (R : DX → Prop), (∃ (x : DX), R x ∧ true = true ∧ ((0 : Nat) = (0 : Nat) ∧ (c = c ∧ (false = true → false = true)) ∧ (↑(List.length c) : Int) = (↑(List.length c) : Int) ∧ (0 :
  Int) = (↑(DX.k x) : Int) ∧ True) ∧ ((0 : Int) = List.getD (DX.D x) (0 : Nat) (0 : Int) ∧ (0 : Int) = List.getD (DX.D x) (1 : Nat) (0 : Int) ∧ (0 : Int) = List.getD (DX.D x) (2 :
  Nat) (0 : Int) ∧ (0 : Int) = List.getD (DX.D x) (3 : Nat) (0 : Int) ∧ (0 : Int) = List.getD (DX.D x) (4 : Nat) (0 : Int) ∧ (0 : Int) = List.getD (DX.D x) (5 : Nat) (0 : Int) ∧ (0 :
  Int) = List.getD (DX.D x) (6 : Nat) (0 : Int) ∧ (0 : Int) = List.getD (DX.D x) (7 : Nat) (0 : Int) ∧ (0 : Int) = List.getD (DX.D x) (8 : Nat) (0 : Int) ∧ (0 : Int) = List.getD
  (DX.D x) (9 : Nat) (0 : Int) ∧ (0 : Int) = List.getD (DX.D x) (10 : Nat) (0 : Int) ∧ (0 : Int) = List.getD (DX.D x) (11 : Nat) (0 : Int) ∧ (0 : Int) = List.getD (DX.D x) (12 : Nat)
  (0 : Int) ∧ (0 : Int) = List.getD (DX.D x) (13 : Nat) (0 : Int) ∧ (0 : Int) = List.getD (DX.D x) (14 : Nat) (0 : Int) ∧ (0 : Int) = List.getD (DX.D x) (15 : Nat) (0 : Int) ∧ (0 :
  Int) = List.getD (DX.D x) (16 : Nat) (0 : Int) ∧ (0 : Int) = List.getD (DX.D x) (17 : Nat) (0 : Int) ∧ (0 : Int) = List.getD (DX.D x) (18 : Nat) (0 : Int) ∧ (0 : Int) = List.getD
  (DX.D x) (19 : Nat) (0 : Int) ∧ (0 : Int) = List.getD (DX.D x) (20 : Nat) (0 : Int) ∧ (0 : Int) = List.getD (DX.D x) (21 : Nat) (0 : Int) ∧ (0 : Int) = List.getD (DX.D x) (22 :
  Nat) (0 : Int) ∧ (0 : Int) = List.getD (DX.D x) (23 : Nat) (0 : Int) ∧ (0 : Int) = List.getD (DX.D x) (24 : Nat) (0 : Int) ∧ (0 : Int) = List.getD (DX.D x) (25 : Nat) (0 : Int) ∧
  (0 : Int) = List.getD (DX.D x) (26 : Nat) (0 : Int) ∧ (0 : Int) = List.getD (DX.D x) (27 : Nat) (0 : Int) ∧ (0 : Int) = List.getD (DX.D x) (28 : Nat) (0 : Int) ∧ (0 : Int) =
  List.getD (DX.D x) (29 : Nat) (0 : Int) ∧ (0 : Int) = List.getD (DX.D x) (30 : Nat) (0 : Int) ∧ (0 : Int) = List.getD (DX.D x) (31 : Nat) (0 : Int) ∧ True) ∧ True) ∧ ∀ (x : DX), R
  x → (decide ((↑(DX.k x) : Int) < (↑(List.length c) : Int)) = true → (0 : Int) ≤ (↑(DX.k x) : Int) ∧ (↑(DX.k x) : Int) + (1 : Int) ≤ (↑(List.length c) : Int) ∧ ∀ (x_1 : Ins),
  c[Int.toNat (↑(DX.k x) : Int)]? = some x_1 → ((0 : Nat) + (1 : Nat) + (1 : Nat) ≤ (4 : Nat) ∧ OkV (Val.mk (3 : Int) (0 : Int) [] [Val.mk (1 : Int) (Ins.op x_1) [] [], Val.mk (1 :
  Int) (Ins.n x_1) [] [], Val.mk (1 : Int) (Ins.m x_1) [] [], Val.mk (2 : Int) (0 : Int) [List.getD (DX.D x) (0 : Nat) (0 : Int), List.getD (DX.D x) (1 : Nat) (0 : Int), List.getD
  (DX.D x) (2 : Nat) (0 : Int), List.getD (DX.D x) (3 : Nat) (0 : Int), List.getD (DX.D x) (4 : Nat) (0 : Int), List.getD (DX.D x) (5 : Nat) (0 : Int), List.getD (DX.D x) (6 : Nat)
  (0 : Int), List.getD (DX.D x) (7 : Nat) (0 : Int), List.getD (DX.D x) (8 : Nat) (0 : Int), List.getD (DX.D x) (9 : Nat) (0 : Int), List.getD (DX.D x) (10 : Nat) (0 : Int),
  List.getD (DX.D x) (11 : Nat) (0 : Int), List.getD (DX.D x) (12 : Nat) (0 : Int), List.getD (DX.D x) (13 : Nat) (0 : Int), List.getD (DX.D x) (14 : Nat) (0 : Int), List.getD (DX.D
  x) (15 : Nat) (0 : Int), List.getD (DX.D x) (16 : Nat) (0 : Int), List.getD (DX.D x) (17 : Nat) (0 : Int), List.getD (DX.D x) (18 : Nat) (0 : Int), List.getD (DX.D x) (19 : Nat) (0
  : Int), List.getD (DX.D x) (20 : Nat) (0 : Int), List.getD (DX.D x) (21 : Nat) (0 : Int), List.getD (DX.D x) (22 : Nat) (0 : Int), List.getD (DX.D x) (23 : Nat) (0 : Int),
  List.getD (DX.D x) (24 : Nat) (0 : Int), List.getD (DX.D x) (25 : Nat) (0 : Int), List.getD (DX.D x) (26 : Nat) (0 : Int), List.getD (DX.D x) (27 : Nat) (0 : Int), List.getD (DX.D
  x) (28 : Nat) (0 : Int), List.getD (DX.D x) (29 : Nat) (0 : Int), List.getD (DX.D x) (30 : Nat) (0 : Int), List.getD (DX.D x) (31 : Nat) (0 : Int)] []])) ∧ ∀ (y : List Int), y =
  hashF ((0 : Nat) + (1 : Nat)) (Val.mk (3 : Int) (0 : Int) [] [Val.mk (1 : Int) (Ins.op x_1) [] [], Val.mk (1 : Int) (Ins.n x_1) [] [], Val.mk (1 : Int) (Ins.m x_1) [] [], Val.mk (2
  : Int) (0 : Int) [List.getD (DX.D x) (0 : Nat) (0 : Int), List.getD (DX.D x) (1 : Nat) (0 : Int), List.getD (DX.D x) (2 : Nat) (0 : Int), List.getD (DX.D x) (3 : Nat) (0 : Int),
  List.getD (DX.D x) (4 : Nat) (0 : Int), List.getD (DX.D x) (5 : Nat) (0 : Int), List.getD (DX.D x) (6 : Nat) (0 : Int), List.getD (DX.D x) (7 : Nat) (0 : Int), List.getD (DX.D x)
  (8 : Nat) (0 : Int), List.getD (DX.D x) (9 : Nat) (0 : Int), List.getD (DX.D x) (10 : Nat) (0 : Int), List.getD (DX.D x) (11 : Nat) (0 : Int), List.getD (DX.D x) (12 : Nat) (0 :
  Int), List.getD (DX.D x) (13 : Nat) (0 : Int), List.getD (DX.D x) (14 : Nat) (0 : Int), List.getD (DX.D x) (15 : Nat) (0 : Int), List.getD (DX.D x) (16 : Nat) (0 : Int), List.getD
  (DX.D x) (17 : Nat) (0 : Int), List.getD (DX.D x) (18 : Nat) (0 : Int), List.getD (DX.D x) (19 : Nat) (0 : Int), List.getD (DX.D x) (20 : Nat) (0 : Int), List.getD (DX.D x) (21 :
  Nat) (0 : Int), List.getD (DX.D x) (22 : Nat) (0 : Int), List.getD (DX.D x) (23 : Nat) (0 : Int), List.getD (DX.D x) (24 : Nat) (0 : Int), List.getD (DX.D x) (25 : Nat) (0 : Int),
  List.getD (DX.D x) (26 : Nat) (0 : Int), List.getD (DX.D x) (27 : Nat) (0 : Int), List.getD (DX.D x) (28 : Nat) (0 : Int), List.getD (DX.D x) (29 : Nat) (0 : Int), List.getD (DX.D
  x) (30 : Nat) (0 : Int), List.getD (DX.D x) (31 : Nat) (0 : Int)] []]) → ∃ (x' : DX), R x' ∧ x'.2 + (1 : Nat) ≤ x.2 ∧ true = true ∧ ((0 : Nat) = (0 : Nat) ∧ (c = c ∧ (false = true
  → false = true)) ∧ (↑(List.length c) : Int) = (↑(List.length c) : Int) ∧ wr IntKind.i64 ((↑(DX.k x) : Int) + (1 : Int)) = (↑(DX.k x') : Int) ∧ True) ∧ (List.getD y (0 : Nat) (0 :
  Int) = List.getD (DX.D x') (0 : Nat) (0 : Int) ∧ List.getD y (1 : Nat) (0 : Int) = List.getD (DX.D x') (1 : Nat) (0 : Int) ∧ List.getD y (2 : Nat) (0 : Int) = List.getD (DX.D x')
  (2 : Nat) (0 : Int) ∧ List.getD y (3 : Nat) (0 : Int) = List.getD (DX.D x') (3 : Nat) (0 : Int) ∧ List.getD y (4 : Nat) (0 : Int) = List.getD (DX.D x') (4 : Nat) (0 : Int) ∧
  List.getD y (5 : Nat) (0 : Int) = List.getD (DX.D x') (5 : Nat) (0 : Int) ∧ List.getD y (6 : Nat) (0 : Int) = List.getD (DX.D x') (6 : Nat) (0 : Int) ∧ List.getD y (7 : Nat) (0 :
  Int) = List.getD (DX.D x') (7 : Nat) (0 : Int) ∧ List.getD y (8 : Nat) (0 : Int) = List.getD (DX.D x') (8 : Nat) (0 : Int) ∧ List.getD y (9 : Nat) (0 : Int) = List.getD (DX.D x')
  (9 : Nat) (0 : Int) ∧ List.getD y (10 : Nat) (0 : Int) = List.getD (DX.D x') (10 : Nat) (0 : Int) ∧ List.getD y (11 : Nat) (0 : Int) = List.getD (DX.D x') (11 : Nat) (0 : Int) ∧
  List.getD y (12 : Nat) (0 : Int) = List.getD (DX.D x') (12 : Nat) (0 : Int) ∧ List.getD y (13 : Nat) (0 : Int) = List.getD (DX.D x') (13 : Nat) (0 : Int) ∧ List.getD y (14 : Nat)
  (0 : Int) = List.getD (DX.D x') (14 : Nat) (0 : Int) ∧ List.getD y (15 : Nat) (0 : Int) = List.getD (DX.D x') (15 : Nat) (0 : Int) ∧ List.getD y (16 : Nat) (0 : Int) = List.getD
  (DX.D x') (16 : Nat) (0 : Int) ∧ List.getD y (17 : Nat) (0 : Int) = List.getD (DX.D x') (17 : Nat) (0 : Int) ∧ List.getD y (18 : Nat) (0 : Int) = List.getD (DX.D x') (18 : Nat) (0
  : Int) ∧ List.getD y (19 : Nat) (0 : Int) = List.getD (DX.D x') (19 : Nat) (0 : Int) ∧ List.getD y (20 : Nat) (0 : Int) = List.getD (DX.D x') (20 : Nat) (0 : Int) ∧ List.getD y (21
  : Nat) (0 : Int) = List.getD (DX.D x') (21 : Nat) (0 : Int) ∧ List.getD y (22 : Nat) (0 : Int) = List.getD (DX.D x') (22 : Nat) (0 : Int) ∧ List.getD y (23 : Nat) (0 : Int) =
  List.getD (DX.D x') (23 : Nat) (0 : Int) ∧ List.getD y (24 : Nat) (0 : Int) = List.getD (DX.D x') (24 : Nat) (0 : Int) ∧ List.getD y (25 : Nat) (0 : Int) = List.getD (DX.D x') (25
  : Nat) (0 : Int) ∧ List.getD y (26 : Nat) (0 : Int) = List.getD (DX.D x') (26 : Nat) (0 : Int) ∧ List.getD y (27 : Nat) (0 : Int) = List.getD (DX.D x') (27 : Nat) (0 : Int) ∧
  List.getD y (28 : Nat) (0 : Int) = List.getD (DX.D x') (28 : Nat) (0 : Int) ∧ List.getD y (29 : Nat) (0 : Int) = List.getD (DX.D x') (29 : Nat) (0 : Int) ∧ List.getD y (30 : Nat)
  (0 : Int) = List.getD (DX.D x') (30 : Nat) (0 : Int) ∧ List.getD y (31 : Nat) (0 : Int) = List.getD (DX.D x') (31 : Nat) (0 : Int) ∧ True) ∧ True) ∧ (decide ((↑(DX.k x) : Int) <
  (↑(List.length c) : Int)) = false → List.getD (DX.D x) (0 : Nat) (0 : Int) = List.getD z (0 : Nat) (0 : Int) ∧ List.getD (DX.D x) (1 : Nat) (0 : Int) = List.getD z (1 : Nat) (0 :
  Int) ∧ List.getD (DX.D x) (2 : Nat) (0 : Int) = List.getD z (2 : Nat) (0 : Int) ∧ List.getD (DX.D x) (3 : Nat) (0 : Int) = List.getD z (3 : Nat) (0 : Int) ∧ List.getD (DX.D x) (4 :
  Nat) (0 : Int) = List.getD z (4 : Nat) (0 : Int) ∧ List.getD (DX.D x) (5 : Nat) (0 : Int) = List.getD z (5 : Nat) (0 : Int) ∧ List.getD (DX.D x) (6 : Nat) (0 : Int) = List.getD z
  (6 : Nat) (0 : Int) ∧ List.getD (DX.D x) (7 : Nat) (0 : Int) = List.getD z (7 : Nat) (0 : Int) ∧ List.getD (DX.D x) (8 : Nat) (0 : Int) = List.getD z (8 : Nat) (0 : Int) ∧
  List.getD (DX.D x) (9 : Nat) (0 : Int) = List.getD z (9 : Nat) (0 : Int) ∧ List.getD (DX.D x) (10 : Nat) (0 : Int) = List.getD z (10 : Nat) (0 : Int) ∧ List.getD (DX.D x) (11 :
  Nat) (0 : Int) = List.getD z (11 : Nat) (0 : Int) ∧ List.getD (DX.D x) (12 : Nat) (0 : Int) = List.getD z (12 : Nat) (0 : Int) ∧ List.getD (DX.D x) (13 : Nat) (0 : Int) = List.getD
  z (13 : Nat) (0 : Int) ∧ List.getD (DX.D x) (14 : Nat) (0 : Int) = List.getD z (14 : Nat) (0 : Int) ∧ List.getD (DX.D x) (15 : Nat) (0 : Int) = List.getD z (15 : Nat) (0 : Int) ∧
  List.getD (DX.D x) (16 : Nat) (0 : Int) = List.getD z (16 : Nat) (0 : Int) ∧ List.getD (DX.D x) (17 : Nat) (0 : Int) = List.getD z (17 : Nat) (0 : Int) ∧ List.getD (DX.D x) (18 :
  Nat) (0 : Int) = List.getD z (18 : Nat) (0 : Int) ∧ List.getD (DX.D x) (19 : Nat) (0 : Int) = List.getD z (19 : Nat) (0 : Int) ∧ List.getD (DX.D x) (20 : Nat) (0 : Int) = List.getD
  z (20 : Nat) (0 : Int) ∧ List.getD (DX.D x) (21 : Nat) (0 : Int) = List.getD z (21 : Nat) (0 : Int) ∧ List.getD (DX.D x) (22 : Nat) (0 : Int) = List.getD z (22 : Nat) (0 : Int) ∧
  List.getD (DX.D x) (23 : Nat) (0 : Int) = List.getD z (23 : Nat) (0 : Int) ∧ List.getD (DX.D x) (24 : Nat) (0 : Int) = List.getD z (24 : Nat) (0 : Int) ∧ List.getD (DX.D x) (25 :
  Nat) (0 : Int) = List.getD z (25 : Nat) (0 : Int) ∧ List.getD (DX.D x) (26 : Nat) (0 : Int) = List.getD z (26 : Nat) (0 : Int) ∧ List.getD (DX.D x) (27 : Nat) (0 : Int) = List.getD
  z (27 : Nat) (0 : Int) ∧ List.getD (DX.D x) (28 : Nat) (0 : Int) = List.getD z (28 : Nat) (0 : Int) ∧ List.getD (DX.D x) (29 : Nat) (0 : Int) = List.getD z (29 : Nat) (0 : Int) ∧
  List.getD (DX.D x) (30 : Nat) (0 : Int) = List.getD z (30 : Nat) (0 : Int) ∧ List.getD (DX.D x) (31 : Nat) (0 : Int) = List.getD z (31 : Nat) (0 : Int) ∧ True)
  ) := by kernel_rfl
--@end
theorem okV_stack (n : Int) (d : List Int) : OkV (stackV n d) := ⟨by simp [stackV, lisV, numV, bytV, n32, Val.sz, szL]⟩
theorem okV_prog (x : Ins) (d : List Int) : OkV (progV x d) := ⟨by simp [progV, lisV, numV, bytV, n32, Val.sz, szL]⟩
theorem onto_pure (d l : List Int) (hl : l.length ≤ 1000000) : PureC E2 40 [dig32 d, .psl Th.ints l false] (dig32 (ontoF d l)) := by
  refine pure_of_call E2_ok (callOk_of E2_ok Fonto_ok 400) ?_
  rw [cond_onto]
  refine ⟨fun x => ∃ q, q ≤ l.length ∧ x.k = q ∧ x.D = ontoF d (l.take q) ∧ x.r = l.length - q, ⟨⟨0, l.length, d, [], 0, 0, 0, 0⟩, ⟨0, Nat.zero_le _, rfl, rfl, rfl⟩, rfl, ⟨rfl, rfl, ⟨rfl, id⟩, rfl, rfl, trivial⟩, ⟨rfl, rfl, rfl, rfl, rfl, rfl, rfl, rfl, rfl, rfl, rfl, rfl, rfl, rfl, rfl, rfl, rfl, rfl, rfl, rfl, rfl, rfl, rfl, rfl, rfl, rfl, rfl, rfl, rfl, rfl, rfl, rfl, trivial⟩, ⟨rfl, rfl, rfl, rfl, rfl, rfl, rfl, rfl, rfl, rfl, rfl, rfl, rfl, rfl, rfl, rfl, rfl, rfl, rfl, rfl, rfl, rfl, rfl, rfl, rfl, rfl, rfl, rfl, rfl, rfl, rfl, rfl, trivial⟩, trivial⟩, ?_⟩
  rintro x ⟨q, hq1, hq2, hq3, hq4⟩
  refine And.intro (fun h => ?_) (fun h => ?_)
  · have h := of_decide_eq_true h
    refine ⟨by omega, by omega, fun n hn => ⟨⟨by omega, okV_stack n x.D⟩, fun y hy => ⟨⟨q + 1, l.length - (q + 1), y, [], 0, 0, 0, 0⟩, ⟨q + 1, by omega, rfl, ?_, rfl⟩, by show l.length - (q + 1) + 1 ≤ x.r; omega, rfl, ⟨rfl, rfl, ⟨rfl, id⟩, rfl, ?_, trivial⟩, ⟨rfl, rfl, rfl, rfl, rfl, rfl, rfl, rfl, rfl, rfl, rfl, rfl, rfl, rfl, rfl, rfl, rfl, rfl, rfl, rfl, rfl, rfl, rfl, rfl, rfl, rfl, rfl, rfl, rfl, rfl, rfl, rfl, trivial⟩, ⟨rfl, rfl, rfl, rfl, rfl, rfl, rfl, rfl, rfl, rfl, rfl, rfl, rfl, rfl, rfl, rfl, rfl, rfl, rfl, rfl, rfl, rfl, rfl, rfl, rfl, rfl, rfl, rfl, rfl, rfl, rfl, rfl, trivial⟩, trivial⟩⟩⟩
    · have hn : l[q]? = some n := by rw [← hq2]; exact hn
      have hy : y = hashF 0 (stackV n x.D) := hy
      show y = _
      rw [take_get hn, ontoF, List.foldl_append, hy, hq3]; rfl
    · show wr .i64 ((x.k : Int) + 1) = ((q + 1 : Nat) : Int)
      rw [hq2, wr64 (by omega) (by omega)]; omega
  · have h := of_decide_eq_false h
    obtain rfl : q = l.length := by omega
    rw [List.take_length] at hq3
    rw [hq3]
    exact ⟨rfl, rfl, rfl, rfl, rfl, rfl, rfl, rfl, rfl, rfl, rfl, rfl, rfl, rfl, rfl, rfl, rfl, rfl, rfl, rfl, rfl, rfl, rfl, rfl, rfl, rfl, rfl, rfl, rfl, rfl, rfl, rfl, trivial⟩
theorem prog_pure (c : List Ins) (hl : c.length ≤ 1000000) : PureC E2 21 [.psl Th.ins c false] (dig32 (progF c)) := by
  refine pure_of_call E2_ok (callOk_of E2_ok Fonto_ok 400) ?_
  rw [cond_prog]
  refine ⟨fun x => ∃ q, q ≤ c.length ∧ x.k = q ∧ x.D = progF (c.take q) ∧ x.r = c.length - q, ⟨⟨0, c.length, zero32, [], 0, 0, 0, 0⟩, ⟨0, Nat.zero_le _, rfl, rfl, rfl⟩, rfl, ⟨rfl, ⟨rfl, id⟩, rfl, rfl, trivial⟩, ⟨rfl, rfl, rfl, rfl, rfl, rfl, rfl, rfl, rfl, rfl, rfl, rfl, rfl, rfl, rfl, rfl, rfl, rfl, rfl, rfl, rfl, rfl, rfl, rfl, rfl, rfl, rfl, rfl, rfl, rfl, rfl, rfl, trivial⟩, trivial⟩, ?_⟩
  rintro x ⟨q, hq1, hq2, hq3, hq4⟩
  refine And.intro (fun h => ?_) (fun h => ?_)
  · have h := of_decide_eq_true h
    refine ⟨by omega, by omega, fun n hn => ⟨⟨by omega, okV_prog n x.D⟩, fun y hy => ⟨⟨q + 1, c.length - (q + 1), y, [], 0, 0, 0, 0⟩, ⟨q + 1, by omega, rfl, ?_, rfl⟩, by show c.length - (q + 1) + 1 ≤ x.r; omega, rfl, ⟨rfl, ⟨rfl, id⟩, rfl, ?_, trivial⟩, ⟨rfl, rfl, rfl, rfl, rfl, rfl, rfl, rfl, rfl, rfl, rfl, rfl, rfl, rfl, rfl, rfl, rfl, rfl, rfl, rfl, rfl, rfl, rfl, rfl, rfl, rfl, rfl, rfl, rfl, rfl, rfl, rfl, trivial⟩, trivial⟩⟩⟩
    · have hn : c[q]? = some n := by rw [← hq2]; exact hn
      have hy : y = hashF 1 (progV n x.D) := hy
      show y = _
      rw [take_get hn, progF, List.foldl_append, hy, hq3]; rfl
    · show wr .i64 ((x.k : Int) + 1) = ((q + 1 : Nat) : Int)
      rw [hq2, wr64 (by omega) (by omega)]; omega
  · have h := of_decide_eq_false h
    obtain rfl : q = c.length := by omega
    rw [List.take_length] at hq3
    rw [hq3]
    exact ⟨rfl, rfl, rfl, rfl, rfl, rfl, rfl, rfl, rfl, rfl, rfl, rfl, rfl, rfl, rfl, rfl, rfl, rfl, rfl, rfl, rfl, rfl, rfl, rfl, rfl, rfl, rfl, rfl, rfl, rfl, rfl, rfl, trivial⟩
end Go.Proofs.YtcaomfbcchemnaaDoor
