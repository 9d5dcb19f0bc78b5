/- Merged texts: TvTa, TvTb, TvUd, TvUe, TvUf, TvTop2, TvUg, TvUo, TvUh. -/
import Derived.Test.YtcaomfbcchemnabDoorMd
/- Chapter 21: digests: the summary of a block of SHA-256; the annotations of the digest's loops. -/
namespace Go.Proofs.YtcaomfbcchemnabDoor
open Go
set_option linter.unusedVariables false
set_option linter.unusedSimpArgs false
def dBys (E : Eng thy) : Dc E (List Int) := (dList (E := E) Th.bys : Dc E (List (thy.dom Th.bys)))
def dByss (E : Eng thy) : Dc E (List (List Int)) := (dList (E := E) Th.byss : Dc E (List (thy.dom Th.byss)))
def row8 (H : List Int) : SV thy := .agg [.int false .u32 (H.getD 0 0), .int false .u32 (H.getD 1 0), .int false .u32 (H.getD 2 0), .int false .u32 (H.getD 3 0), .int false .u32 (H.getD 4 0), .int false .u32 (H.getD 5 0), .int false .u32 (H.getD 6 0), .int false .u32 (H.getD 7 0)]
theorem row8_eq {H : List Int} (h : H.length = 8) : rowV .u32 H = row8 H := all8 (P := fun H => rowV .u32 H = row8 H) (fun _ _ _ _ _ _ _ _ => rfl) H h
/-- kinds of rows that are laid without a type -/
def gthT (cs : List (SV thy)) : Option Th := match cs with | .int _ .u8 _ :: _ => some .bys | _ => none
noncomputable def Sblk : Sum thy := sumF E2 gthT 2 (.cons (dNums E2 .u32) (.cons (dBys E2) .nil)) (fun x => x.1.length = 8 ∧ x.2.1.length = 64) fun x => row8 (blkF x.1 x.2.1)
theorem Sblk_ok : SumOk E2 108 Sblk := sumF_ok E2_ok (good_of (f := 108) rfl) fun x h => by
  have := blk_pure h.1 h.2
  rw [row8_eq (blkF_len h.1 h.2)] at this
  exact this
/-- the loop of sum over the parts -/
def A58a : Fr thy → Hp thy → Nat → Ann2 thy := fun T h i => { X := DX, fr := fun s x => match s with | true => [(2, T 2), (3, .val (.slice none 0 0)), (10, T 10), (11, T 11), (12, .int false .i64 x.k)] | false => [(2, T 2), (3, .sl i 0 x.D.length 1 none), (10, T 10), (11, T 11), (12, .int false .i64 x.k)], bl := fun s x => match s with | true => blkP h (T 2) | false => (i, .rows Th.bys x.D 0) :: blkP h (T 2), src := fun s => match s with | true => [] | false => [(i, 3)], md := [], ih := i + 1, M := i + 40, meas := fun s x => x.r }
/-- the loop that fills up -/
def A58b : Fr thy → Hp thy → Nat → Ann thy := fun T h i => { X := DX, fr := fun x => [(2, T 2), (3, .sl i 0 x.D.length 1 none), (6, T 6)], bl := fun x => (i, .rows Th.bys x.D 0) :: blkP h (T 2), src := fun _ => [(i, 3)], md := [bOf (T 3)], ih := i + 1, M := i + 40, meas := fun x => x.r }
/-- the loop over the blocks -/
def A58c : Fr thy → Hp thy → Nat → Ann2 thy := fun T h i => { X := DX, fr := fun s x => match s with | true => [(2, T 2), (3, .sl (bOf (T 3)) x.n x.m 1 none), (8, T 8)] | false => [(2, T 2), (3, .psl Th.bys [] false), (8, T 8)], bl := fun s x => match s with | true => (bOf (T 8), .raw (row8 x.H).cells 0 none) :: (blkZ h (T 3) x.fz ++ blkP h (T 2)) | false => (bOf (T 8), .raw (row8 x.H).cells 0 none) :: blkP h (T 2), src := fun _ => [], md := [bOf (T 3), bOf (T 8)], ih := i, M := i + 60, meas := fun s x => x.r }
/-- the loop over the bytes of the length -/
def A58d : Fr thy → Hp thy → Nat → Ann thy := fun T h i => { X := DX, fr := fun x => [(2, T 2), (3, .sl i 0 x.D.length 1 none), (6, T 6), (7, .int false .i64 x.j)], bl := fun x => (i, .rows Th.bys x.D 0) :: blkP h (T 2), src := fun _ => [(i, 3)], md := [bOf (T 3)], ih := i + 1, M := i + 40, meas := fun x => x.r }
noncomputable def F20 : Fns thy := addL (addL2 (addL (addL2 (addS F0 108 Sblk) 87 3 A58a E2) 87 9 A58b E2) 87 16 A58c E2) 87 12 A58d E2
theorem F20_ok : FnsOk E2 F20 := addL_ok E2_ok (addL2_ok E2_ok (addL_ok E2_ok (addL2_ok E2_ok (addS_ok F0_ok2 Sblk_ok) _ _ _) _ _ _) _ _ _) _ _ _
def dig32 (d : List Int) : SV thy := .agg [.int false .u8 (d.getD 0 0), .int false .u8 (d.getD 1 0), .int false .u8 (d.getD 2 0), .int false .u8 (d.getD 3 0), .int false .u8 (d.getD 4 0), .int false .u8 (d.getD 5 0), .int false .u8 (d.getD 6 0), .int false .u8 (d.getD 7 0), .int false .u8 (d.getD 8 0), .int false .u8 (d.getD 9 0), .int false .u8 (d.getD 10 0), .int false .u8 (d.getD 11 0), .int false .u8 (d.getD 12 0), .int false .u8 (d.getD 13 0), .int false .u8 (d.getD 14 0), .int false .u8 (d.getD 15 0), .int false .u8 (d.getD 16 0), .int false .u8 (d.getD 17 0), .int false .u8 (d.getD 18 0), .int false .u8 (d.getD 19 0), .int false .u8 (d.getD 20 0), .int false .u8 (d.getD 21 0), .int false .u8 (d.getD 22 0), .int false .u8 (d.getD 23 0), .int false .u8 (d.getD 24 0), .int false .u8 (d.getD 25 0), .int false .u8 (d.getD 26 0), .int false .u8 (d.getD 27 0), .int false .u8 (d.getD 28 0), .int false .u8 (d.getD 29 0), .int false .u8 (d.getD 30 0), .int false .u8 (d.getD 31 0)]
--@cond sum | 87 | E2:F20 | 400 | (ps : List (List Int)) | [.psl Th.byss ps false] | (d : List Int) | dig32 d
theorem cond_sum (ps : List (List Int)) (d : List Int) : callF E2 F20 (vc E2 F20 400) 87 [.psl Th.byss ps false] hp0 0 (fun r => ret E2 (patch hp0 0 r) r.v (dig32 d)) = (
  ∃ (R : Bool → DX → Prop), ((∃ (x : DX), R true x ∧ true = true ∧ ((0 : Nat) = (0 : Nat) ∧ Value.slice none (0 : Nat) (0 : Nat) = Value.slice none (0 : Nat) (0 : Nat) ∧ (ps = ps ∧
  (false = true → false = true)) ∧ (↑(List.length ps) : Int) = (↑(List.length ps) : Int) ∧ (0 : Int) = (↑(DX.k x) : Int) ∧ True) ∧ ((0 : Int) = (0 : Int) ∧ (0 : Int) = (0 : Int) ∧ (0
  : Int) = (0 : Int) ∧ (0 : Int) = (0 : Int) ∧ (0 : Int) = (0 : Int) ∧ (0 : Int) = (0 : Int) ∧ (0 : Int) = (0 : Int) ∧ (0 : Int) = (0 : Int) ∧ (0 : Int) = (0 : Int) ∧ (0 : Int) = (0
  : Int) ∧ (0 : Int) = (0 : Int) ∧ (0 : Int) = (0 : Int) ∧ (0 : Int) = (0 : Int) ∧ (0 : Int) = (0 : Int) ∧ (0 : Int) = (0 : Int) ∧ (0 : Int) = (0 : Int) ∧ (0 : Int) = (0 : Int) ∧ (0
  : Int) = (0 : Int) ∧ (0 : Int) = (0 : Int) ∧ (0 : Int) = (0 : Int) ∧ (0 : Int) = (0 : Int) ∧ (0 : Int) = (0 : Int) ∧ (0 : Int) = (0 : Int) ∧ (0 : Int) = (0 : Int) ∧ (0 : Int) = (0
  : Int) ∧ (0 : Int) = (0 : Int) ∧ (0 : Int) = (0 : Int) ∧ (0 : Int) = (0 : Int) ∧ (0 : Int) = (0 : Int) ∧ (0 : Int) = (0 : Int) ∧ (0 : Int) = (0 : Int) ∧ (0 : Int) = (0 : Int) ∧
  True) ∧ True) ∨ ∃ (x : DX), R false x ∧ true = true ∧ False) ∧ (∀ (x : DX), R true x → (decide ((↑(DX.k x) : Int) < (↑(List.length ps) : Int)) = true → (0 : Int) ≤ (↑(DX.k x) :
  Int) ∧ (↑(DX.k x) : Int) + (1 : Int) ≤ (↑(List.length ps) : Int) ∧ ∀ (x_1 : List Int), ps[Int.toNat (↑(DX.k x) : Int)]? = some x_1 → (x_1 = ([] : List Int) → (∃ (x' : DX), R true
  x' ∧ x'.2 + (1 : Nat) ≤ x.2 ∧ true = true ∧ ((0 : Nat) = (0 : Nat) ∧ Value.slice none (0 : Nat) (0 : Nat) = Value.slice none (0 : Nat) (0 : Nat) ∧ (ps = ps ∧ (false = true → false
  = true)) ∧ (↑(List.length ps) : Int) = (↑(List.length ps) : Int) ∧ wr IntKind.i64 ((↑(DX.k x) : Int) + (1 : Int)) = (↑(DX.k x') : Int) ∧ True) ∧ ((0 : Int) = (0 : Int) ∧ (0 : Int)
  = (0 : Int) ∧ (0 : Int) = (0 : Int) ∧ (0 : Int) = (0 : Int) ∧ (0 : Int) = (0 : Int) ∧ (0 : Int) = (0 : Int) ∧ (0 : Int) = (0 : Int) ∧ (0 : Int) = (0 : Int) ∧ (0 : Int) = (0 : Int)
  ∧ (0 : Int) = (0 : Int) ∧ (0 : Int) = (0 : Int) ∧ (0 : Int) = (0 : Int) ∧ (0 : Int) = (0 : Int) ∧ (0 : Int) = (0 : Int) ∧ (0 : Int) = (0 : Int) ∧ (0 : Int) = (0 : Int) ∧ (0 : Int)
  = (0 : Int) ∧ (0 : Int) = (0 : Int) ∧ (0 : Int) = (0 : Int) ∧ (0 : Int) = (0 : Int) ∧ (0 : Int) = (0 : Int) ∧ (0 : Int) = (0 : Int) ∧ (0 : Int) = (0 : Int) ∧ (0 : Int) = (0 : Int)
  ∧ (0 : Int) = (0 : Int) ∧ (0 : Int) = (0 : Int) ∧ (0 : Int) = (0 : Int) ∧ (0 : Int) = (0 : Int) ∧ (0 : Int) = (0 : Int) ∧ (0 : Int) = (0 : Int) ∧ (0 : Int) = (0 : Int) ∧ (0 : Int)
  = (0 : Int) ∧ True) ∧ True) ∨ ∃ (x' : DX), R false x' ∧ x'.2 + (1 : Nat) ≤ x.2 ∧ true = true ∧ False) ∧ (x_1 ≠ ([] : List Int) → List.length x_1 * (1 : Nat) ≤ (140737488355328 :
  Nat) ∧ ((∃ (x' : DX), R true x' ∧ x'.2 + (1 : Nat) ≤ x.2 ∧ true = true ∧ ((0 : Nat) = (0 : Nat) ∧ False ∧ (ps = ps ∧ (false = true → false = true)) ∧ (↑(List.length ps) : Int) =
  (↑(List.length ps) : Int) ∧ wr IntKind.i64 ((↑(DX.k x) : Int) + (1 : Int)) = (↑(DX.k x') : Int) ∧ True) ∧ ((0 : Int) = (0 : Int) ∧ (0 : Int) = (0 : Int) ∧ (0 : Int) = (0 : Int) ∧
  (0 : Int) = (0 : Int) ∧ (0 : Int) = (0 : Int) ∧ (0 : Int) = (0 : Int) ∧ (0 : Int) = (0 : Int) ∧ (0 : Int) = (0 : Int) ∧ (0 : Int) = (0 : Int) ∧ (0 : Int) = (0 : Int) ∧ (0 : Int) =
  (0 : Int) ∧ (0 : Int) = (0 : Int) ∧ (0 : Int) = (0 : Int) ∧ (0 : Int) = (0 : Int) ∧ (0 : Int) = (0 : Int) ∧ (0 : Int) = (0 : Int) ∧ (0 : Int) = (0 : Int) ∧ (0 : Int) = (0 : Int) ∧
  (0 : Int) = (0 : Int) ∧ (0 : Int) = (0 : Int) ∧ (0 : Int) = (0 : Int) ∧ (0 : Int) = (0 : Int) ∧ (0 : Int) = (0 : Int) ∧ (0 : Int) = (0 : Int) ∧ (0 : Int) = (0 : Int) ∧ (0 : Int) =
  (0 : Int) ∧ (0 : Int) = (0 : Int) ∧ (0 : Int) = (0 : Int) ∧ (0 : Int) = (0 : Int) ∧ (0 : Int) = (0 : Int) ∧ (0 : Int) = (0 : Int) ∧ (0 : Int) = (0 : Int) ∧ True) ∧ True) ∨ ∃ (x' :
  DX), R false x' ∧ x'.2 + (1 : Nat) ≤ x.2 ∧ true = true ∧ ((0 : Nat) = (0 : Nat) ∧ ((0 : Nat) = (0 : Nat) ∧ List.length x_1 = List.length (DX.D x') ∧ True) ∧ (ps = ps ∧ (false =
  true → false = true)) ∧ (↑(List.length ps) : Int) = (↑(List.length ps) : Int) ∧ wr IntKind.i64 ((↑(DX.k x) : Int) + (1 : Int)) = (↑(DX.k x') : Int) ∧ True) ∧ (x_1 = DX.D x' ∧ (0 :
  Nat) = (0 : Nat)) ∧ ((0 : Int) = (0 : Int) ∧ (0 : Int) = (0 : Int) ∧ (0 : Int) = (0 : Int) ∧ (0 : Int) = (0 : Int) ∧ (0 : Int) = (0 : Int) ∧ (0 : Int) = (0 : Int) ∧ (0 : Int) = (0
  : Int) ∧ (0 : Int) = (0 : Int) ∧ (0 : Int) = (0 : Int) ∧ (0 : Int) = (0 : Int) ∧ (0 : Int) = (0 : Int) ∧ (0 : Int) = (0 : Int) ∧ (0 : Int) = (0 : Int) ∧ (0 : Int) = (0 : Int) ∧ (0
  : Int) = (0 : Int) ∧ (0 : Int) = (0 : Int) ∧ (0 : Int) = (0 : Int) ∧ (0 : Int) = (0 : Int) ∧ (0 : Int) = (0 : Int) ∧ (0 : Int) = (0 : Int) ∧ (0 : Int) = (0 : Int) ∧ (0 : Int) = (0
  : Int) ∧ (0 : Int) = (0 : Int) ∧ (0 : Int) = (0 : Int) ∧ (0 : Int) = (0 : Int) ∧ (0 : Int) = (0 : Int) ∧ (0 : Int) = (0 : Int) ∧ (0 : Int) = (0 : Int) ∧ (0 : Int) = (0 : Int) ∧ (0
  : Int) = (0 : Int) ∧ (0 : Int) = (0 : Int) ∧ (0 : Int) = (0 : Int) ∧ True) ∧ True))) ∧ (decide ((↑(DX.k x) : Int) < (↑(List.length ps) : Int)) = false → ∃ (R : DX → Prop), (∃ (x :
  DX), R x ∧ true = true ∧ ((0 : Nat) = (0 : Nat) ∧ ((0 : Nat) = (0 : Nat) ∧ (1 : Nat) = List.length (DX.D x) ∧ True) ∧ (0 : Int) = (0 : Int) ∧ True) ∧ ([(128 : Int)] = DX.D x ∧ (0 :
  Nat) = (0 : Nat)) ∧ ((0 : Int) = (0 : Int) ∧ (0 : Int) = (0 : Int) ∧ (0 : Int) = (0 : Int) ∧ (0 : Int) = (0 : Int) ∧ (0 : Int) = (0 : Int) ∧ (0 : Int) = (0 : Int) ∧ (0 : Int) = (0
  : Int) ∧ (0 : Int) = (0 : Int) ∧ (0 : Int) = (0 : Int) ∧ (0 : Int) = (0 : Int) ∧ (0 : Int) = (0 : Int) ∧ (0 : Int) = (0 : Int) ∧ (0 : Int) = (0 : Int) ∧ (0 : Int) = (0 : Int) ∧ (0
  : Int) = (0 : Int) ∧ (0 : Int) = (0 : Int) ∧ (0 : Int) = (0 : Int) ∧ (0 : Int) = (0 : Int) ∧ (0 : Int) = (0 : Int) ∧ (0 : Int) = (0 : Int) ∧ (0 : Int) = (0 : Int) ∧ (0 : Int) = (0
  : Int) ∧ (0 : Int) = (0 : Int) ∧ (0 : Int) = (0 : Int) ∧ (0 : Int) = (0 : Int) ∧ (0 : Int) = (0 : Int) ∧ (0 : Int) = (0 : Int) ∧ (0 : Int) = (0 : Int) ∧ (0 : Int) = (0 : Int) ∧ (0
  : Int) = (0 : Int) ∧ (0 : Int) = (0 : Int) ∧ (0 : Int) = (0 : Int) ∧ True) ∧ True) ∧ ∀ (x : DX), R x → ((Int.tmod (↑(List.length (DX.D x)) : Int) (64 : Int) != (56 : Int)) = true →
  (List.length (DX.D x) ≤ List.length (DX.D x) ∧ (0 : Nat) ≤ List.length (DX.D x) ∧ (List.length (DX.D x) + (1 : Nat)) * (1 : Nat) ≤ (140737488355328 : Nat)) ∧ ∃ (x' : DX), R x' ∧
  x'.2 + (1 : Nat) ≤ x.2 ∧ true = true ∧ ((0 : Nat) = (0 : Nat) ∧ ((0 : Nat) = (0 : Nat) ∧ List.length (DX.D x) + (1 : Nat) = List.length (DX.D x') ∧ True) ∧ (0 : Int) = (0 : Int) ∧
  True) ∧ (List.take (List.length (DX.D x)) (DX.D x) ++ [(0 : Int)] = DX.D x' ∧ (0 : Nat) = (0 : Nat)) ∧ ((0 : Int) = (0 : Int) ∧ (0 : Int) = (0 : Int) ∧ (0 : Int) = (0 : Int) ∧ (0 :
  Int) = (0 : Int) ∧ (0 : Int) = (0 : Int) ∧ (0 : Int) = (0 : Int) ∧ (0 : Int) = (0 : Int) ∧ (0 : Int) = (0 : Int) ∧ (0 : Int) = (0 : Int) ∧ (0 : Int) = (0 : Int) ∧ (0 : Int) = (0 :
  Int) ∧ (0 : Int) = (0 : Int) ∧ (0 : Int) = (0 : Int) ∧ (0 : Int) = (0 : Int) ∧ (0 : Int) = (0 : Int) ∧ (0 : Int) = (0 : Int) ∧ (0 : Int) = (0 : Int) ∧ (0 : Int) = (0 : Int) ∧ (0 :
  Int) = (0 : Int) ∧ (0 : Int) = (0 : Int) ∧ (0 : Int) = (0 : Int) ∧ (0 : Int) = (0 : Int) ∧ (0 : Int) = (0 : Int) ∧ (0 : Int) = (0 : Int) ∧ (0 : Int) = (0 : Int) ∧ (0 : Int) = (0 :
  Int) ∧ (0 : Int) = (0 : Int) ∧ (0 : Int) = (0 : Int) ∧ (0 : Int) = (0 : Int) ∧ (0 : Int) = (0 : Int) ∧ (0 : Int) = (0 : Int) ∧ (0 : Int) = (0 : Int) ∧ True) ∧ True) ∧ ((Int.tmod
  (↑(List.length (DX.D x)) : Int) (64 : Int) != (56 : Int)) = false → ∃ (R : DX → Prop), (∃ (x_1 : DX), R x_1 ∧ true = true ∧ ((0 : Nat) = (0 : Nat) ∧ ((0 : Nat) = (0 : Nat) ∧
  List.length (DX.D x) = List.length (DX.D x_1) ∧ True) ∧ (0 : Int) = (0 : Int) ∧ (56 : Int) = DX.j x_1 ∧ True) ∧ (DX.D x = DX.D x_1 ∧ (0 : Nat) = (0 : Nat)) ∧ ((0 : Int) = (0 : Int)
  ∧ (0 : Int) = (0 : Int) ∧ (0 : Int) = (0 : Int) ∧ (0 : Int) = (0 : Int) ∧ (0 : Int) = (0 : Int) ∧ (0 : Int) = (0 : Int) ∧ (0 : Int) = (0 : Int) ∧ (0 : Int) = (0 : Int) ∧ (0 : Int)
  = (0 : Int) ∧ (0 : Int) = (0 : Int) ∧ (0 : Int) = (0 : Int) ∧ (0 : Int) = (0 : Int) ∧ (0 : Int) = (0 : Int) ∧ (0 : Int) = (0 : Int) ∧ (0 : Int) = (0 : Int) ∧ (0 : Int) = (0 : Int)
  ∧ (0 : Int) = (0 : Int) ∧ (0 : Int) = (0 : Int) ∧ (0 : Int) = (0 : Int) ∧ (0 : Int) = (0 : Int) ∧ (0 : Int) = (0 : Int) ∧ (0 : Int) = (0 : Int) ∧ (0 : Int) = (0 : Int) ∧ (0 : Int)
  = (0 : Int) ∧ (0 : Int) = (0 : Int) ∧ (0 : Int) = (0 : Int) ∧ (0 : Int) = (0 : Int) ∧ (0 : Int) = (0 : Int) ∧ (0 : Int) = (0 : Int) ∧ (0 : Int) = (0 : Int) ∧ (0 : Int) = (0 : Int)
  ∧ (0 : Int) = (0 : Int) ∧ True) ∧ True) ∧ ∀ (x : DX), R x → (decide (DX.j x ≥ (0 : Int)) = true → (0 : Int) ≤ DX.j x ∧ (List.length (DX.D x) ≤ List.length (DX.D x) ∧ (0 : Nat) ≤
  List.length (DX.D x) ∧ (List.length (DX.D x) + (1 : Nat)) * (1 : Nat) ≤ (140737488355328 : Nat)) ∧ ∃ (x' : DX), R x' ∧ x'.2 + (1 : Nat) ≤ x.2 ∧ true = true ∧ ((0 : Nat) = (0 : Nat)
  ∧ ((0 : Nat) = (0 : Nat) ∧ List.length (DX.D x) + (1 : Nat) = List.length (DX.D x') ∧ True) ∧ (0 : Int) = (0 : Int) ∧ wr IntKind.i64 (DX.j x - (8 : Int)) = DX.j x' ∧ True) ∧
  (List.take (List.length (DX.D x)) (DX.D x) ++ [wr IntKind.u8 (Int.fdiv (0 : Int) ((2 : Int) ^ min (Int.toNat (DX.j x)) (IntKind.bits IntKind.u64)))] = DX.D x' ∧ (0 : Nat) = (0 :
  Nat)) ∧ ((0 : Int) = (0 : Int) ∧ (0 : Int) = (0 : Int) ∧ (0 : Int) = (0 : Int) ∧ (0 : Int) = (0 : Int) ∧ (0 : Int) = (0 : Int) ∧ (0 : Int) = (0 : Int) ∧ (0 : Int) = (0 : Int) ∧ (0
  : Int) = (0 : Int) ∧ (0 : Int) = (0 : Int) ∧ (0 : Int) = (0 : Int) ∧ (0 : Int) = (0 : Int) ∧ (0 : Int) = (0 : Int) ∧ (0 : Int) = (0 : Int) ∧ (0 : Int) = (0 : Int) ∧ (0 : Int) = (0
  : Int) ∧ (0 : Int) = (0 : Int) ∧ (0 : Int) = (0 : Int) ∧ (0 : Int) = (0 : Int) ∧ (0 : Int) = (0 : Int) ∧ (0 : Int) = (0 : Int) ∧ (0 : Int) = (0 : Int) ∧ (0 : Int) = (0 : Int) ∧ (0
  : Int) = (0 : Int) ∧ (0 : Int) = (0 : Int) ∧ (0 : Int) = (0 : Int) ∧ (0 : Int) = (0 : Int) ∧ (0 : Int) = (0 : Int) ∧ (0 : Int) = (0 : Int) ∧ (0 : Int) = (0 : Int) ∧ (0 : Int) = (0
  : Int) ∧ (0 : Int) = (0 : Int) ∧ (0 : Int) = (0 : Int) ∧ True) ∧ True) ∧ (decide (DX.j x ≥ (0 : Int)) = false → ∃ (R : Bool → DX → Prop), ((∃ (x_1 : DX), R true x_1 ∧ true = true ∧
  ((0 : Nat) = (0 : Nat) ∧ ((0 : Nat) = DX.n x_1 ∧ List.length (DX.D x) = DX.m x_1 ∧ True) ∧ (0 : Nat) = (0 : Nat) ∧ True) ∧ ((1779033703 : Int) = List.getD (DX.H x_1) (0 : Nat) (0 :
  Int) ∧ (3144134277 : Int) = List.getD (DX.H x_1) (1 : Nat) (0 : Int) ∧ (1013904242 : Int) = List.getD (DX.H x_1) (2 : Nat) (0 : Int) ∧ (2773480762 : Int) = List.getD (DX.H x_1) (3
  : Nat) (0 : Int) ∧ (1359893119 : Int) = List.getD (DX.H x_1) (4 : Nat) (0 : Int) ∧ (2600822924 : Int) = List.getD (DX.H x_1) (5 : Nat) (0 : Int) ∧ (528734635 : Int) = List.getD
  (DX.H x_1) (6 : Nat) (0 : Int) ∧ (1541459225 : Int) = List.getD (DX.H x_1) (7 : Nat) (0 : Int) ∧ True) ∧ (DX.D x = DX.D x ∧ (0 : Nat) = DX.fz x_1) ∧ ((0 : Int) = (0 : Int) ∧ (0 :
  Int) = (0 : Int) ∧ (0 : Int) = (0 : Int) ∧ (0 : Int) = (0 : Int) ∧ (0 : Int) = (0 : Int) ∧ (0 : Int) = (0 : Int) ∧ (0 : Int) = (0 : Int) ∧ (0 : Int) = (0 : Int) ∧ (0 : Int) = (0 :
  Int) ∧ (0 : Int) = (0 : Int) ∧ (0 : Int) = (0 : Int) ∧ (0 : Int) = (0 : Int) ∧ (0 : Int) = (0 : Int) ∧ (0 : Int) = (0 : Int) ∧ (0 : Int) = (0 : Int) ∧ (0 : Int) = (0 : Int) ∧ (0 :
  Int) = (0 : Int) ∧ (0 : Int) = (0 : Int) ∧ (0 : Int) = (0 : Int) ∧ (0 : Int) = (0 : Int) ∧ (0 : Int) = (0 : Int) ∧ (0 : Int) = (0 : Int) ∧ (0 : Int) = (0 : Int) ∧ (0 : Int) = (0 :
  Int) ∧ (0 : Int) = (0 : Int) ∧ (0 : Int) = (0 : Int) ∧ (0 : Int) = (0 : Int) ∧ (0 : Int) = (0 : Int) ∧ (0 : Int) = (0 : Int) ∧ (0 : Int) = (0 : Int) ∧ (0 : Int) = (0 : Int) ∧ (0 :
  Int) = (0 : Int) ∧ True) ∧ True) ∨ ∃ (x : DX), R false x ∧ true = true ∧ ((0 : Nat) = (0 : Nat) ∧ False ∧ (0 : Nat) = (0 : Nat) ∧ True) ∧ ((1779033703 : Int) = List.getD (DX.H x)
  (0 : Nat) (0 : Int) ∧ (3144134277 : Int) = List.getD (DX.H x) (1 : Nat) (0 : Int) ∧ (1013904242 : Int) = List.getD (DX.H x) (2 : Nat) (0 : Int) ∧ (2773480762 : Int) = List.getD
  (DX.H x) (3 : Nat) (0 : Int) ∧ (1359893119 : Int) = List.getD (DX.H x) (4 : Nat) (0 : Int) ∧ (2600822924 : Int) = List.getD (DX.H x) (5 : Nat) (0 : Int) ∧ (528734635 : Int) =
  List.getD (DX.H x) (6 : Nat) (0 : Int) ∧ (1541459225 : Int) = List.getD (DX.H x) (7 : Nat) (0 : Int) ∧ True) ∧ ((0 : Int) = (0 : Int) ∧ (0 : Int) = (0 : Int) ∧ (0 : Int) = (0 :
  Int) ∧ (0 : Int) = (0 : Int) ∧ (0 : Int) = (0 : Int) ∧ (0 : Int) = (0 : Int) ∧ (0 : Int) = (0 : Int) ∧ (0 : Int) = (0 : Int) ∧ (0 : Int) = (0 : Int) ∧ (0 : Int) = (0 : Int) ∧ (0 :
  Int) = (0 : Int) ∧ (0 : Int) = (0 : Int) ∧ (0 : Int) = (0 : Int) ∧ (0 : Int) = (0 : Int) ∧ (0 : Int) = (0 : Int) ∧ (0 : Int) = (0 : Int) ∧ (0 : Int) = (0 : Int) ∧ (0 : Int) = (0 :
  Int) ∧ (0 : Int) = (0 : Int) ∧ (0 : Int) = (0 : Int) ∧ (0 : Int) = (0 : Int) ∧ (0 : Int) = (0 : Int) ∧ (0 : Int) = (0 : Int) ∧ (0 : Int) = (0 : Int) ∧ (0 : Int) = (0 : Int) ∧ (0 :
  Int) = (0 : Int) ∧ (0 : Int) = (0 : Int) ∧ (0 : Int) = (0 : Int) ∧ (0 : Int) = (0 : Int) ∧ (0 : Int) = (0 : Int) ∧ (0 : Int) = (0 : Int) ∧ (0 : Int) = (0 : Int) ∧ True) ∧ True) ∧
  (∀ (x_1 : DX), R true x_1 → (decide ((↑(DX.m x_1) : Int) > (0 : Int)) = true → ((0 : Int) ≤ (64 : Int) ∧ (64 : Int) ≤ (↑(DX.m x_1) : Int)) ∧ DX.n x_1 + Int.toNat (64 : Int) ≤
  List.length (DX.D x) ∧ ((8 : Nat) = (8 : Nat) ∧ List.length (List.take (Int.toNat (64 : Int)) (List.drop (DX.n x_1) (DX.D x))) = (64 : Nat)) ∧ ((0 : Int) ≤ (64 : Int) ∧ (64 : Int)
  ≤ (↑(DX.m x_1) : Int)) ∧ (decide ((64 : Int) < (↑(DX.m x_1) : Int)) = true → (∃ (x' : DX), R true x' ∧ x'.2 + (1 : Nat) ≤ x_1.2 ∧ true = true ∧ ((0 : Nat) = (0 : Nat) ∧ (DX.n x_1 +
  Int.toNat (64 : Int) = DX.n x' ∧ DX.m x_1 - Int.toNat (64 : Int) = DX.m x' ∧ True) ∧ (0 : Nat) = (0 : Nat) ∧ True) ∧ (List.getD (blkF [List.getD (DX.H x_1) (0 : Nat) (0 : Int),
  List.getD (DX.H x_1) (1 : Nat) (0 : Int), List.getD (DX.H x_1) (2 : Nat) (0 : Int), List.getD (DX.H x_1) (3 : Nat) (0 : Int), List.getD (DX.H x_1) (4 : Nat) (0 : Int), List.getD
  (DX.H x_1) (5 : Nat) (0 : Int), List.getD (DX.H x_1) (6 : Nat) (0 : Int), List.getD (DX.H x_1) (7 : Nat) (0 : Int)] (List.take (Int.toNat (64 : Int)) (List.drop (DX.n x_1) (DX.D
  x)))) (0 : Nat) (0 : Int) = List.getD (DX.H x') (0 : Nat) (0 : Int) ∧ List.getD (blkF [List.getD (DX.H x_1) (0 : Nat) (0 : Int), List.getD (DX.H x_1) (1 : Nat) (0 : Int), List.getD
  (DX.H x_1) (2 : Nat) (0 : Int), List.getD (DX.H x_1) (3 : Nat) (0 : Int), List.getD (DX.H x_1) (4 : Nat) (0 : Int), List.getD (DX.H x_1) (5 : Nat) (0 : Int), List.getD (DX.H x_1)
  (6 : Nat) (0 : Int), List.getD (DX.H x_1) (7 : Nat) (0 : Int)] (List.take (Int.toNat (64 : Int)) (List.drop (DX.n x_1) (DX.D x)))) (1 : Nat) (0 : Int) = List.getD (DX.H x') (1 :
  Nat) (0 : Int) ∧ List.getD (blkF [List.getD (DX.H x_1) (0 : Nat) (0 : Int), List.getD (DX.H x_1) (1 : Nat) (0 : Int), List.getD (DX.H x_1) (2 : Nat) (0 : Int), List.getD (DX.H x_1)
  (3 : Nat) (0 : Int), List.getD (DX.H x_1) (4 : Nat) (0 : Int), List.getD (DX.H x_1) (5 : Nat) (0 : Int), List.getD (DX.H x_1) (6 : Nat) (0 : Int), List.getD (DX.H x_1) (7 : Nat) (0
  : Int)] (List.take (Int.toNat (64 : Int)) (List.drop (DX.n x_1) (DX.D x)))) (2 : Nat) (0 : Int) = List.getD (DX.H x') (2 : Nat) (0 : Int) ∧ List.getD (blkF [List.getD (DX.H x_1) (0
  : Nat) (0 : Int), List.getD (DX.H x_1) (1 : Nat) (0 : Int), List.getD (DX.H x_1) (2 : Nat) (0 : Int), List.getD (DX.H x_1) (3 : Nat) (0 : Int), List.getD (DX.H x_1) (4 : Nat) (0 :
  Int), List.getD (DX.H x_1) (5 : Nat) (0 : Int), List.getD (DX.H x_1) (6 : Nat) (0 : Int), List.getD (DX.H x_1) (7 : Nat) (0 : Int)] (List.take (Int.toNat (64 : Int)) (List.drop
  (DX.n x_1) (DX.D x)))) (3 : Nat) (0 : Int) = List.getD (DX.H x') (3 : Nat) (0 : Int) ∧ List.getD (blkF [List.getD (DX.H x_1) (0 : Nat) (0 : Int), List.getD (DX.H x_1) (1 : Nat) (0
  : Int), List.getD (DX.H x_1) (2 : Nat) (0 : Int), List.getD (DX.H x_1) (3 : Nat) (0 : Int), List.getD (DX.H x_1) (4 : Nat) (0 : Int), List.getD (DX.H x_1) (5 : Nat) (0 : Int),
  List.getD (DX.H x_1) (6 : Nat) (0 : Int), List.getD (DX.H x_1) (7 : Nat) (0 : Int)] (List.take (Int.toNat (64 : Int)) (List.drop (DX.n x_1) (DX.D x)))) (4 : Nat) (0 : Int) =
  List.getD (DX.H x') (4 : Nat) (0 : Int) ∧ List.getD (blkF [List.getD (DX.H x_1) (0 : Nat) (0 : Int), List.getD (DX.H x_1) (1 : Nat) (0 : Int), List.getD (DX.H x_1) (2 : Nat) (0 :
  Int), List.getD (DX.H x_1) (3 : Nat) (0 : Int), List.getD (DX.H x_1) (4 : Nat) (0 : Int), List.getD (DX.H x_1) (5 : Nat) (0 : Int), List.getD (DX.H x_1) (6 : Nat) (0 : Int),
  List.getD (DX.H x_1) (7 : Nat) (0 : Int)] (List.take (Int.toNat (64 : Int)) (List.drop (DX.n x_1) (DX.D x)))) (5 : Nat) (0 : Int) = List.getD (DX.H x') (5 : Nat) (0 : Int) ∧
  List.getD (blkF [List.getD (DX.H x_1) (0 : Nat) (0 : Int), List.getD (DX.H x_1) (1 : Nat) (0 : Int), List.getD (DX.H x_1) (2 : Nat) (0 : Int), List.getD (DX.H x_1) (3 : Nat) (0 :
  Int), List.getD (DX.H x_1) (4 : Nat) (0 : Int), List.getD (DX.H x_1) (5 : Nat) (0 : Int), List.getD (DX.H x_1) (6 : Nat) (0 : Int), List.getD (DX.H x_1) (7 : Nat) (0 : Int)]
  (List.take (Int.toNat (64 : Int)) (List.drop (DX.n x_1) (DX.D x)))) (6 : Nat) (0 : Int) = List.getD (DX.H x') (6 : Nat) (0 : Int) ∧ List.getD (blkF [List.getD (DX.H x_1) (0 : Nat)
  (0 : Int), List.getD (DX.H x_1) (1 : Nat) (0 : Int), List.getD (DX.H x_1) (2 : Nat) (0 : Int), List.getD (DX.H x_1) (3 : Nat) (0 : Int), List.getD (DX.H x_1) (4 : Nat) (0 : Int),
  List.getD (DX.H x_1) (5 : Nat) (0 : Int), List.getD (DX.H x_1) (6 : Nat) (0 : Int), List.getD (DX.H x_1) (7 : Nat) (0 : Int)] (List.take (Int.toNat (64 : Int)) (List.drop (DX.n
  x_1) (DX.D x)))) (7 : Nat) (0 : Int) = List.getD (DX.H x') (7 : Nat) (0 : Int) ∧ True) ∧ (DX.D x = DX.D x ∧ mx2 (DX.fz x_1) (List.length (DX.D x)) = DX.fz x') ∧ ((0 : Int) = (0 :
  Int) ∧ (0 : Int) = (0 : Int) ∧ (0 : Int) = (0 : Int) ∧ (0 : Int) = (0 : Int) ∧ (0 : Int) = (0 : Int) ∧ (0 : Int) = (0 : Int) ∧ (0 : Int) = (0 : Int) ∧ (0 : Int) = (0 : Int) ∧ (0 :
  Int) = (0 : Int) ∧ (0 : Int) = (0 : Int) ∧ (0 : Int) = (0 : Int) ∧ (0 : Int) = (0 : Int) ∧ (0 : Int) = (0 : Int) ∧ (0 : Int) = (0 : Int) ∧ (0 : Int) = (0 : Int) ∧ (0 : Int) = (0 :
  Int) ∧ (0 : Int) = (0 : Int) ∧ (0 : Int) = (0 : Int) ∧ (0 : Int) = (0 : Int) ∧ (0 : Int) = (0 : Int) ∧ (0 : Int) = (0 : Int) ∧ (0 : Int) = (0 : Int) ∧ (0 : Int) = (0 : Int) ∧ (0 :
  Int) = (0 : Int) ∧ (0 : Int) = (0 : Int) ∧ (0 : Int) = (0 : Int) ∧ (0 : Int) = (0 : Int) ∧ (0 : Int) = (0 : Int) ∧ (0 : Int) = (0 : Int) ∧ (0 : Int) = (0 : Int) ∧ (0 : Int) = (0 :
  Int) ∧ (0 : Int) = (0 : Int) ∧ True) ∧ True) ∨ ∃ (x' : DX), R false x' ∧ x'.2 + (1 : Nat) ≤ x_1.2 ∧ true = true ∧ ((0 : Nat) = (0 : Nat) ∧ False ∧ (0 : Nat) = (0 : Nat) ∧ True) ∧
  (List.getD (blkF [List.getD (DX.H x_1) (0 : Nat) (0 : Int), List.getD (DX.H x_1) (1 : Nat) (0 : Int), List.getD (DX.H x_1) (2 : Nat) (0 : Int), List.getD (DX.H x_1) (3 : Nat) (0 :
  Int), List.getD (DX.H x_1) (4 : Nat) (0 : Int), List.getD (DX.H x_1) (5 : Nat) (0 : Int), List.getD (DX.H x_1) (6 : Nat) (0 : Int), List.getD (DX.H x_1) (7 : Nat) (0 : Int)]
  (List.take (Int.toNat (64 : Int)) (List.drop (DX.n x_1) (DX.D x)))) (0 : Nat) (0 : Int) = List.getD (DX.H x') (0 : Nat) (0 : Int) ∧ List.getD (blkF [List.getD (DX.H x_1) (0 : Nat)
  (0 : Int), List.getD (DX.H x_1) (1 : Nat) (0 : Int), List.getD (DX.H x_1) (2 : Nat) (0 : Int), List.getD (DX.H x_1) (3 : Nat) (0 : Int), List.getD (DX.H x_1) (4 : Nat) (0 : Int),
  List.getD (DX.H x_1) (5 : Nat) (0 : Int), List.getD (DX.H x_1) (6 : Nat) (0 : Int), List.getD (DX.H x_1) (7 : Nat) (0 : Int)] (List.take (Int.toNat (64 : Int)) (List.drop (DX.n
  x_1) (DX.D x)))) (1 : Nat) (0 : Int) = List.getD (DX.H x') (1 : Nat) (0 : Int) ∧ List.getD (blkF [List.getD (DX.H x_1) (0 : Nat) (0 : Int), List.getD (DX.H x_1) (1 : Nat) (0 :
  Int), List.getD (DX.H x_1) (2 : Nat) (0 : Int), List.getD (DX.H x_1) (3 : Nat) (0 : Int), List.getD (DX.H x_1) (4 : Nat) (0 : Int), List.getD (DX.H x_1) (5 : Nat) (0 : Int),
  List.getD (DX.H x_1) (6 : Nat) (0 : Int), List.getD (DX.H x_1) (7 : Nat) (0 : Int)] (List.take (Int.toNat (64 : Int)) (List.drop (DX.n x_1) (DX.D x)))) (2 : Nat) (0 : Int) =
  List.getD (DX.H x') (2 : Nat) (0 : Int) ∧ List.getD (blkF [List.getD (DX.H x_1) (0 : Nat) (0 : Int), List.getD (DX.H x_1) (1 : Nat) (0 : Int), List.getD (DX.H x_1) (2 : Nat) (0 :
  Int), List.getD (DX.H x_1) (3 : Nat) (0 : Int), List.getD (DX.H x_1) (4 : Nat) (0 : Int), List.getD (DX.H x_1) (5 : Nat) (0 : Int), List.getD (DX.H x_1) (6 : Nat) (0 : Int),
  List.getD (DX.H x_1) (7 : Nat) (0 : Int)] (List.take (Int.toNat (64 : Int)) (List.drop (DX.n x_1) (DX.D x)))) (3 : Nat) (0 : Int) = List.getD (DX.H x') (3 : Nat) (0 : Int) ∧
  List.getD (blkF [List.getD (DX.H x_1) (0 : Nat) (0 : Int), List.getD (DX.H x_1) (1 : Nat) (0 : Int), List.getD (DX.H x_1) (2 : Nat) (0 : Int), List.getD (DX.H x_1) (3 : Nat) (0 :
  Int), List.getD (DX.H x_1) (4 : Nat) (0 : Int), List.getD (DX.H x_1) (5 : Nat) (0 : Int), List.getD (DX.H x_1) (6 : Nat) (0 : Int), List.getD (DX.H x_1) (7 : Nat) (0 : Int)]
  (List.take (Int.toNat (64 : Int)) (List.drop (DX.n x_1) (DX.D x)))) (4 : Nat) (0 : Int) = List.getD (DX.H x') (4 : Nat) (0 : Int) ∧ List.getD (blkF [List.getD (DX.H x_1) (0 : Nat)
  (0 : Int), List.getD (DX.H x_1) (1 : Nat) (0 : Int), List.getD (DX.H x_1) (2 : Nat) (0 : Int), List.getD (DX.H x_1) (3 : Nat) (0 : Int), List.getD (DX.H x_1) (4 : Nat) (0 : Int),
  List.getD (DX.H x_1) (5 : Nat) (0 : Int), List.getD (DX.H x_1) (6 : Nat) (0 : Int), List.getD (DX.H x_1) (7 : Nat) (0 : Int)] (List.take (Int.toNat (64 : Int)) (List.drop (DX.n
  x_1) (DX.D x)))) (5 : Nat) (0 : Int) = List.getD (DX.H x') (5 : Nat) (0 : Int) ∧ List.getD (blkF [List.getD (DX.H x_1) (0 : Nat) (0 : Int), List.getD (DX.H x_1) (1 : Nat) (0 :
  Int), List.getD (DX.H x_1) (2 : Nat) (0 : Int), List.getD (DX.H x_1) (3 : Nat) (0 : Int), List.getD (DX.H x_1) (4 : Nat) (0 : Int), List.getD (DX.H x_1) (5 : Nat) (0 : Int),
  List.getD (DX.H x_1) (6 : Nat) (0 : Int), List.getD (DX.H x_1) (7 : Nat) (0 : Int)] (List.take (Int.toNat (64 : Int)) (List.drop (DX.n x_1) (DX.D x)))) (6 : Nat) (0 : Int) =
  List.getD (DX.H x') (6 : Nat) (0 : Int) ∧ List.getD (blkF [List.getD (DX.H x_1) (0 : Nat) (0 : Int), List.getD (DX.H x_1) (1 : Nat) (0 : Int), List.getD (DX.H x_1) (2 : Nat) (0 :
  Int), List.getD (DX.H x_1) (3 : Nat) (0 : Int), List.getD (DX.H x_1) (4 : Nat) (0 : Int), List.getD (DX.H x_1) (5 : Nat) (0 : Int), List.getD (DX.H x_1) (6 : Nat) (0 : Int),
  List.getD (DX.H x_1) (7 : Nat) (0 : Int)] (List.take (Int.toNat (64 : Int)) (List.drop (DX.n x_1) (DX.D x)))) (7 : Nat) (0 : Int) = List.getD (DX.H x') (7 : Nat) (0 : Int) ∧ True)
  ∧ ((0 : Int) = (0 : Int) ∧ (0 : Int) = (0 : Int) ∧ (0 : Int) = (0 : Int) ∧ (0 : Int) = (0 : Int) ∧ (0 : Int) = (0 : Int) ∧ (0 : Int) = (0 : Int) ∧ (0 : Int) = (0 : Int) ∧ (0 : Int)
  = (0 : Int) ∧ (0 : Int) = (0 : Int) ∧ (0 : Int) = (0 : Int) ∧ (0 : Int) = (0 : Int) ∧ (0 : Int) = (0 : Int) ∧ (0 : Int) = (0 : Int) ∧ (0 : Int) = (0 : Int) ∧ (0 : Int) = (0 : Int)
  ∧ (0 : Int) = (0 : Int) ∧ (0 : Int) = (0 : Int) ∧ (0 : Int) = (0 : Int) ∧ (0 : Int) = (0 : Int) ∧ (0 : Int) = (0 : Int) ∧ (0 : Int) = (0 : Int) ∧ (0 : Int) = (0 : Int) ∧ (0 : Int)
  = (0 : Int) ∧ (0 : Int) = (0 : Int) ∧ (0 : Int) = (0 : Int) ∧ (0 : Int) = (0 : Int) ∧ (0 : Int) = (0 : Int) ∧ (0 : Int) = (0 : Int) ∧ (0 : Int) = (0 : Int) ∧ (0 : Int) = (0 : Int)
  ∧ (0 : Int) = (0 : Int) ∧ (0 : Int) = (0 : Int) ∧ True) ∧ True) ∧ (decide ((64 : Int) < (↑(DX.m x_1) : Int)) = false → (∃ (x' : DX), R true x' ∧ x'.2 + (1 : Nat) ≤ x_1.2 ∧ true =
  true ∧ ((0 : Nat) = (0 : Nat) ∧ False ∧ (0 : Nat) = (0 : Nat) ∧ True) ∧ (List.getD (blkF [List.getD (DX.H x_1) (0 : Nat) (0 : Int), List.getD (DX.H x_1) (1 : Nat) (0 : Int),
  List.getD (DX.H x_1) (2 : Nat) (0 : Int), List.getD (DX.H x_1) (3 : Nat) (0 : Int), List.getD (DX.H x_1) (4 : Nat) (0 : Int), List.getD (DX.H x_1) (5 : Nat) (0 : Int), List.getD
  (DX.H x_1) (6 : Nat) (0 : Int), List.getD (DX.H x_1) (7 : Nat) (0 : Int)] (List.take (Int.toNat (64 : Int)) (List.drop (DX.n x_1) (DX.D x)))) (0 : Nat) (0 : Int) = List.getD (DX.H
  x') (0 : Nat) (0 : Int) ∧ List.getD (blkF [List.getD (DX.H x_1) (0 : Nat) (0 : Int), List.getD (DX.H x_1) (1 : Nat) (0 : Int), List.getD (DX.H x_1) (2 : Nat) (0 : Int), List.getD
  (DX.H x_1) (3 : Nat) (0 : Int), List.getD (DX.H x_1) (4 : Nat) (0 : Int), List.getD (DX.H x_1) (5 : Nat) (0 : Int), List.getD (DX.H x_1) (6 : Nat) (0 : Int), List.getD (DX.H x_1)
  (7 : Nat) (0 : Int)] (List.take (Int.toNat (64 : Int)) (List.drop (DX.n x_1) (DX.D x)))) (1 : Nat) (0 : Int) = List.getD (DX.H x') (1 : Nat) (0 : Int) ∧ List.getD (blkF [List.getD
  (DX.H x_1) (0 : Nat) (0 : Int), List.getD (DX.H x_1) (1 : Nat) (0 : Int), List.getD (DX.H x_1) (2 : Nat) (0 : Int), List.getD (DX.H x_1) (3 : Nat) (0 : Int), List.getD (DX.H x_1)
  (4 : Nat) (0 : Int), List.getD (DX.H x_1) (5 : Nat) (0 : Int), List.getD (DX.H x_1) (6 : Nat) (0 : Int), List.getD (DX.H x_1) (7 : Nat) (0 : Int)] (List.take (Int.toNat (64 : Int))
  (List.drop (DX.n x_1) (DX.D x)))) (2 : Nat) (0 : Int) = List.getD (DX.H x') (2 : Nat) (0 : Int) ∧ List.getD (blkF [List.getD (DX.H x_1) (0 : Nat) (0 : Int), List.getD (DX.H x_1) (1
  : Nat) (0 : Int), List.getD (DX.H x_1) (2 : Nat) (0 : Int), List.getD (DX.H x_1) (3 : Nat) (0 : Int), List.getD (DX.H x_1) (4 : Nat) (0 : Int), List.getD (DX.H x_1) (5 : Nat) (0 :
  Int), List.getD (DX.H x_1) (6 : Nat) (0 : Int), List.getD (DX.H x_1) (7 : Nat) (0 : Int)] (List.take (Int.toNat (64 : Int)) (List.drop (DX.n x_1) (DX.D x)))) (3 : Nat) (0 : Int) =
  List.getD (DX.H x') (3 : Nat) (0 : Int) ∧ List.getD (blkF [List.getD (DX.H x_1) (0 : Nat) (0 : Int), List.getD (DX.H x_1) (1 : Nat) (0 : Int), List.getD (DX.H x_1) (2 : Nat) (0 :
  Int), List.getD (DX.H x_1) (3 : Nat) (0 : Int), List.getD (DX.H x_1) (4 : Nat) (0 : Int), List.getD (DX.H x_1) (5 : Nat) (0 : Int), List.getD (DX.H x_1) (6 : Nat) (0 : Int),
  List.getD (DX.H x_1) (7 : Nat) (0 : Int)] (List.take (Int.toNat (64 : Int)) (List.drop (DX.n x_1) (DX.D x)))) (4 : Nat) (0 : Int) = List.getD (DX.H x') (4 : Nat) (0 : Int) ∧
  List.getD (blkF [List.getD (DX.H x_1) (0 : Nat) (0 : Int), List.getD (DX.H x_1) (1 : Nat) (0 : Int), List.getD (DX.H x_1) (2 : Nat) (0 : Int), List.getD (DX.H x_1) (3 : Nat) (0 :
  Int), List.getD (DX.H x_1) (4 : Nat) (0 : Int), List.getD (DX.H x_1) (5 : Nat) (0 : Int), List.getD (DX.H x_1) (6 : Nat) (0 : Int), List.getD (DX.H x_1) (7 : Nat) (0 : Int)]
  (List.take (Int.toNat (64 : Int)) (List.drop (DX.n x_1) (DX.D x)))) (5 : Nat) (0 : Int) = List.getD (DX.H x') (5 : Nat) (0 : Int) ∧ List.getD (blkF [List.getD (DX.H x_1) (0 : Nat)
  (0 : Int), List.getD (DX.H x_1) (1 : Nat) (0 : Int), List.getD (DX.H x_1) (2 : Nat) (0 : Int), List.getD (DX.H x_1) (3 : Nat) (0 : Int), List.getD (DX.H x_1) (4 : Nat) (0 : Int),
  List.getD (DX.H x_1) (5 : Nat) (0 : Int), List.getD (DX.H x_1) (6 : Nat) (0 : Int), List.getD (DX.H x_1) (7 : Nat) (0 : Int)] (List.take (Int.toNat (64 : Int)) (List.drop (DX.n
  x_1) (DX.D x)))) (6 : Nat) (0 : Int) = List.getD (DX.H x') (6 : Nat) (0 : Int) ∧ List.getD (blkF [List.getD (DX.H x_1) (0 : Nat) (0 : Int), List.getD (DX.H x_1) (1 : Nat) (0 :
  Int), List.getD (DX.H x_1) (2 : Nat) (0 : Int), List.getD (DX.H x_1) (3 : Nat) (0 : Int), List.getD (DX.H x_1) (4 : Nat) (0 : Int), List.getD (DX.H x_1) (5 : Nat) (0 : Int),
  List.getD (DX.H x_1) (6 : Nat) (0 : Int), List.getD (DX.H x_1) (7 : Nat) (0 : Int)] (List.take (Int.toNat (64 : Int)) (List.drop (DX.n x_1) (DX.D x)))) (7 : Nat) (0 : Int) =
  List.getD (DX.H x') (7 : Nat) (0 : Int) ∧ True) ∧ (DX.D x = DX.D x ∧ mx2 (DX.fz x_1) (List.length (DX.D x)) = DX.fz x') ∧ ((0 : Int) = (0 : Int) ∧ (0 : Int) = (0 : Int) ∧ (0 : Int)
  = (0 : Int) ∧ (0 : Int) = (0 : Int) ∧ (0 : Int) = (0 : Int) ∧ (0 : Int) = (0 : Int) ∧ (0 : Int) = (0 : Int) ∧ (0 : Int) = (0 : Int) ∧ (0 : Int) = (0 : Int) ∧ (0 : Int) = (0 : Int)
  ∧ (0 : Int) = (0 : Int) ∧ (0 : Int) = (0 : Int) ∧ (0 : Int) = (0 : Int) ∧ (0 : Int) = (0 : Int) ∧ (0 : Int) = (0 : Int) ∧ (0 : Int) = (0 : Int) ∧ (0 : Int) = (0 : Int) ∧ (0 : Int)
  = (0 : Int) ∧ (0 : Int) = (0 : Int) ∧ (0 : Int) = (0 : Int) ∧ (0 : Int) = (0 : Int) ∧ (0 : Int) = (0 : Int) ∧ (0 : Int) = (0 : Int) ∧ (0 : Int) = (0 : Int) ∧ (0 : Int) = (0 : Int)
  ∧ (0 : Int) = (0 : Int) ∧ (0 : Int) = (0 : Int) ∧ (0 : Int) = (0 : Int) ∧ (0 : Int) = (0 : Int) ∧ (0 : Int) = (0 : Int) ∧ (0 : Int) = (0 : Int) ∧ (0 : Int) = (0 : Int) ∧ True) ∧
  True) ∨ ∃ (x' : DX), R false x' ∧ x'.2 + (1 : Nat) ≤ x_1.2 ∧ true = true ∧ ((0 : Nat) = (0 : Nat) ∧ (([] : List Int) = ([] : List Int) ∧ (false = true → false = true)) ∧ (0 : Nat)
  = (0 : Nat) ∧ True) ∧ (List.getD (blkF [List.getD (DX.H x_1) (0 : Nat) (0 : Int), List.getD (DX.H x_1) (1 : Nat) (0 : Int), List.getD (DX.H x_1) (2 : Nat) (0 : Int), List.getD
  (DX.H x_1) (3 : Nat) (0 : Int), List.getD (DX.H x_1) (4 : Nat) (0 : Int), List.getD (DX.H x_1) (5 : Nat) (0 : Int), List.getD (DX.H x_1) (6 : Nat) (0 : Int), List.getD (DX.H x_1)
  (7 : Nat) (0 : Int)] (List.take (Int.toNat (64 : Int)) (List.drop (DX.n x_1) (DX.D x)))) (0 : Nat) (0 : Int) = List.getD (DX.H x') (0 : Nat) (0 : Int) ∧ List.getD (blkF [List.getD
  (DX.H x_1) (0 : Nat) (0 : Int), List.getD (DX.H x_1) (1 : Nat) (0 : Int), List.getD (DX.H x_1) (2 : Nat) (0 : Int), List.getD (DX.H x_1) (3 : Nat) (0 : Int), List.getD (DX.H x_1)
  (4 : Nat) (0 : Int), List.getD (DX.H x_1) (5 : Nat) (0 : Int), List.getD (DX.H x_1) (6 : Nat) (0 : Int), List.getD (DX.H x_1) (7 : Nat) (0 : Int)] (List.take (Int.toNat (64 : Int))
  (List.drop (DX.n x_1) (DX.D x)))) (1 : Nat) (0 : Int) = List.getD (DX.H x') (1 : Nat) (0 : Int) ∧ List.getD (blkF [List.getD (DX.H x_1) (0 : Nat) (0 : Int), List.getD (DX.H x_1) (1
  : Nat) (0 : Int), List.getD (DX.H x_1) (2 : Nat) (0 : Int), List.getD (DX.H x_1) (3 : Nat) (0 : Int), List.getD (DX.H x_1) (4 : Nat) (0 : Int), List.getD (DX.H x_1) (5 : Nat) (0 :
  Int), List.getD (DX.H x_1) (6 : Nat) (0 : Int), List.getD (DX.H x_1) (7 : Nat) (0 : Int)] (List.take (Int.toNat (64 : Int)) (List.drop (DX.n x_1) (DX.D x)))) (2 : Nat) (0 : Int) =
  List.getD (DX.H x') (2 : Nat) (0 : Int) ∧ List.getD (blkF [List.getD (DX.H x_1) (0 : Nat) (0 : Int), List.getD (DX.H x_1) (1 : Nat) (0 : Int), List.getD (DX.H x_1) (2 : Nat) (0 :
  Int), List.getD (DX.H x_1) (3 : Nat) (0 : Int), List.getD (DX.H x_1) (4 : Nat) (0 : Int), List.getD (DX.H x_1) (5 : Nat) (0 : Int), List.getD (DX.H x_1) (6 : Nat) (0 : Int),
  List.getD (DX.H x_1) (7 : Nat) (0 : Int)] (List.take (Int.toNat (64 : Int)) (List.drop (DX.n x_1) (DX.D x)))) (3 : Nat) (0 : Int) = List.getD (DX.H x') (3 : Nat) (0 : Int) ∧
  List.getD (blkF [List.getD (DX.H x_1) (0 : Nat) (0 : Int), List.getD (DX.H x_1) (1 : Nat) (0 : Int), List.getD (DX.H x_1) (2 : Nat) (0 : Int), List.getD (DX.H x_1) (3 : Nat) (0 :
  Int), List.getD (DX.H x_1) (4 : Nat) (0 : Int), List.getD (DX.H x_1) (5 : Nat) (0 : Int), List.getD (DX.H x_1) (6 : Nat) (0 : Int), List.getD (DX.H x_1) (7 : Nat) (0 : Int)]
  (List.take (Int.toNat (64 : Int)) (List.drop (DX.n x_1) (DX.D x)))) (4 : Nat) (0 : Int) = List.getD (DX.H x') (4 : Nat) (0 : Int) ∧ List.getD (blkF [List.getD (DX.H x_1) (0 : Nat)
  (0 : Int), List.getD (DX.H x_1) (1 : Nat) (0 : Int), List.getD (DX.H x_1) (2 : Nat) (0 : Int), List.getD (DX.H x_1) (3 : Nat) (0 : Int), List.getD (DX.H x_1) (4 : Nat) (0 : Int),
  List.getD (DX.H x_1) (5 : Nat) (0 : Int), List.getD (DX.H x_1) (6 : Nat) (0 : Int), List.getD (DX.H x_1) (7 : Nat) (0 : Int)] (List.take (Int.toNat (64 : Int)) (List.drop (DX.n
  x_1) (DX.D x)))) (5 : Nat) (0 : Int) = List.getD (DX.H x') (5 : Nat) (0 : Int) ∧ List.getD (blkF [List.getD (DX.H x_1) (0 : Nat) (0 : Int), List.getD (DX.H x_1) (1 : Nat) (0 :
  Int), List.getD (DX.H x_1) (2 : Nat) (0 : Int), List.getD (DX.H x_1) (3 : Nat) (0 : Int), List.getD (DX.H x_1) (4 : Nat) (0 : Int), List.getD (DX.H x_1) (5 : Nat) (0 : Int),
  List.getD (DX.H x_1) (6 : Nat) (0 : Int), List.getD (DX.H x_1) (7 : Nat) (0 : Int)] (List.take (Int.toNat (64 : Int)) (List.drop (DX.n x_1) (DX.D x)))) (6 : Nat) (0 : Int) =
  List.getD (DX.H x') (6 : Nat) (0 : Int) ∧ List.getD (blkF [List.getD (DX.H x_1) (0 : Nat) (0 : Int), List.getD (DX.H x_1) (1 : Nat) (0 : Int), List.getD (DX.H x_1) (2 : Nat) (0 :
  Int), List.getD (DX.H x_1) (3 : Nat) (0 : Int), List.getD (DX.H x_1) (4 : Nat) (0 : Int), List.getD (DX.H x_1) (5 : Nat) (0 : Int), List.getD (DX.H x_1) (6 : Nat) (0 : Int),
  List.getD (DX.H x_1) (7 : Nat) (0 : Int)] (List.take (Int.toNat (64 : Int)) (List.drop (DX.n x_1) (DX.D x)))) (7 : Nat) (0 : Int) = List.getD (DX.H x') (7 : Nat) (0 : Int) ∧ True)
  ∧ ((0 : Int) = (0 : Int) ∧ (0 : Int) = (0 : Int) ∧ (0 : Int) = (0 : Int) ∧ (0 : Int) = (0 : Int) ∧ (0 : Int) = (0 : Int) ∧ (0 : Int) = (0 : Int) ∧ (0 : Int) = (0 : Int) ∧ (0 : Int)
  = (0 : Int) ∧ (0 : Int) = (0 : Int) ∧ (0 : Int) = (0 : Int) ∧ (0 : Int) = (0 : Int) ∧ (0 : Int) = (0 : Int) ∧ (0 : Int) = (0 : Int) ∧ (0 : Int) = (0 : Int) ∧ (0 : Int) = (0 : Int)
  ∧ (0 : Int) = (0 : Int) ∧ (0 : Int) = (0 : Int) ∧ (0 : Int) = (0 : Int) ∧ (0 : Int) = (0 : Int) ∧ (0 : Int) = (0 : Int) ∧ (0 : Int) = (0 : Int) ∧ (0 : Int) = (0 : Int) ∧ (0 : Int)
  = (0 : Int) ∧ (0 : Int) = (0 : Int) ∧ (0 : Int) = (0 : Int) ∧ (0 : Int) = (0 : Int) ∧ (0 : Int) = (0 : Int) ∧ (0 : Int) = (0 : Int) ∧ (0 : Int) = (0 : Int) ∧ (0 : Int) = (0 : Int)
  ∧ (0 : Int) = (0 : Int) ∧ (0 : Int) = (0 : Int) ∧ True) ∧ True)) ∧ (decide ((↑(DX.m x_1) : Int) > (0 : Int)) = false → wr IntKind.u8 (Int.fdiv (List.getD (DX.H x_1) (0 : Nat) (0 :
  Int)) ((2 : Int) ^ min (Int.toNat (24 : Int)) (IntKind.bits IntKind.u32))) = List.getD d (0 : Nat) (0 : Int) ∧ wr IntKind.u8 (Int.fdiv (List.getD (DX.H x_1) (0 : Nat) (0 : Int))
  ((2 : Int) ^ min (Int.toNat (16 : Int)) (IntKind.bits IntKind.u32))) = List.getD d (1 : Nat) (0 : Int) ∧ wr IntKind.u8 (Int.fdiv (List.getD (DX.H x_1) (0 : Nat) (0 : Int)) ((2 :
  Int) ^ min (Int.toNat (8 : Int)) (IntKind.bits IntKind.u32))) = List.getD d (2 : Nat) (0 : Int) ∧ wr IntKind.u8 (Int.fdiv (List.getD (DX.H x_1) (0 : Nat) (0 : Int)) ((2 : Int) ^
  min (Int.toNat (0 : Int)) (IntKind.bits IntKind.u32))) = List.getD d (3 : Nat) (0 : Int) ∧ wr IntKind.u8 (Int.fdiv (List.getD (DX.H x_1) (1 : Nat) (0 : Int)) ((2 : Int) ^ min
  (Int.toNat (24 : Int)) (IntKind.bits IntKind.u32))) = List.getD d (4 : Nat) (0 : Int) ∧ wr IntKind.u8 (Int.fdiv (List.getD (DX.H x_1) (1 : Nat) (0 : Int)) ((2 : Int) ^ min
  (Int.toNat (16 : Int)) (IntKind.bits IntKind.u32))) = List.getD d (5 : Nat) (0 : Int) ∧ wr IntKind.u8 (Int.fdiv (List.getD (DX.H x_1) (1 : Nat) (0 : Int)) ((2 : Int) ^ min
  (Int.toNat (8 : Int)) (IntKind.bits IntKind.u32))) = List.getD d (6 : Nat) (0 : Int) ∧ wr IntKind.u8 (Int.fdiv (List.getD (DX.H x_1) (1 : Nat) (0 : Int)) ((2 : Int) ^ min
  (Int.toNat (0 : Int)) (IntKind.bits IntKind.u32))) = List.getD d (7 : Nat) (0 : Int) ∧ wr IntKind.u8 (Int.fdiv (List.getD (DX.H x_1) (2 : Nat) (0 : Int)) ((2 : Int) ^ min
  (Int.toNat (24 : Int)) (IntKind.bits IntKind.u32))) = List.getD d (8 : Nat) (0 : Int) ∧ wr IntKind.u8 (Int.fdiv (List.getD (DX.H x_1) (2 : Nat) (0 : Int)) ((2 : Int) ^ min
  (Int.toNat (16 : Int)) (IntKind.bits IntKind.u32))) = List.getD d (9 : Nat) (0 : Int) ∧ wr IntKind.u8 (Int.fdiv (List.getD (DX.H x_1) (2 : Nat) (0 : Int)) ((2 : Int) ^ min
  (Int.toNat (8 : Int)) (IntKind.bits IntKind.u32))) = List.getD d (10 : Nat) (0 : Int) ∧ wr IntKind.u8 (Int.fdiv (List.getD (DX.H x_1) (2 : Nat) (0 : Int)) ((2 : Int) ^ min
  (Int.toNat (0 : Int)) (IntKind.bits IntKind.u32))) = List.getD d (11 : Nat) (0 : Int) ∧ wr IntKind.u8 (Int.fdiv (List.getD (DX.H x_1) (3 : Nat) (0 : Int)) ((2 : Int) ^ min
  (Int.toNat (24 : Int)) (IntKind.bits IntKind.u32))) = List.getD d (12 : Nat) (0 : Int) ∧ wr IntKind.u8 (Int.fdiv (List.getD (DX.H x_1) (3 : Nat) (0 : Int)) ((2 : Int) ^ min
  (Int.toNat (16 : Int)) (IntKind.bits IntKind.u32))) = List.getD d (13 : Nat) (0 : Int) ∧ wr IntKind.u8 (Int.fdiv (List.getD (DX.H x_1) (3 : Nat) (0 : Int)) ((2 : Int) ^ min
  (Int.toNat (8 : Int)) (IntKind.bits IntKind.u32))) = List.getD d (14 : Nat) (0 : Int) ∧ wr IntKind.u8 (Int.fdiv (List.getD (DX.H x_1) (3 : Nat) (0 : Int)) ((2 : Int) ^ min
  (Int.toNat (0 : Int)) (IntKind.bits IntKind.u32))) = List.getD d (15 : Nat) (0 : Int) ∧ wr IntKind.u8 (Int.fdiv (List.getD (DX.H x_1) (4 : Nat) (0 : Int)) ((2 : Int) ^ min
  (Int.toNat (24 : Int)) (IntKind.bits IntKind.u32))) = List.getD d (16 : Nat) (0 : Int) ∧ wr IntKind.u8 (Int.fdiv (List.getD (DX.H x_1) (4 : Nat) (0 : Int)) ((2 : Int) ^ min
  (Int.toNat (16 : Int)) (IntKind.bits IntKind.u32))) = List.getD d (17 : Nat) (0 : Int) ∧ wr IntKind.u8 (Int.fdiv (List.getD (DX.H x_1) (4 : Nat) (0 : Int)) ((2 : Int) ^ min
  (Int.toNat (8 : Int)) (IntKind.bits IntKind.u32))) = List.getD d (18 : Nat) (0 : Int) ∧ wr IntKind.u8 (Int.fdiv (List.getD (DX.H x_1) (4 : Nat) (0 : Int)) ((2 : Int) ^ min
  (Int.toNat (0 : Int)) (IntKind.bits IntKind.u32))) = List.getD d (19 : Nat) (0 : Int) ∧ wr IntKind.u8 (Int.fdiv (List.getD (DX.H x_1) (5 : Nat) (0 : Int)) ((2 : Int) ^ min
  (Int.toNat (24 : Int)) (IntKind.bits IntKind.u32))) = List.getD d (20 : Nat) (0 : Int) ∧ wr IntKind.u8 (Int.fdiv (List.getD (DX.H x_1) (5 : Nat) (0 : Int)) ((2 : Int) ^ min
  (Int.toNat (16 : Int)) (IntKind.bits IntKind.u32))) = List.getD d (21 : Nat) (0 : Int) ∧ wr IntKind.u8 (Int.fdiv (List.getD (DX.H x_1) (5 : Nat) (0 : Int)) ((2 : Int) ^ min
  (Int.toNat (8 : Int)) (IntKind.bits IntKind.u32))) = List.getD d (22 : Nat) (0 : Int) ∧ wr IntKind.u8 (Int.fdiv (List.getD (DX.H x_1) (5 : Nat) (0 : Int)) ((2 : Int) ^ min
  (Int.toNat (0 : Int)) (IntKind.bits IntKind.u32))) = List.getD d (23 : Nat) (0 : Int) ∧ wr IntKind.u8 (Int.fdiv (List.getD (DX.H x_1) (6 : Nat) (0 : Int)) ((2 : Int) ^ min
  (Int.toNat (24 : Int)) (IntKind.bits IntKind.u32))) = List.getD d (24 : Nat) (0 : Int) ∧ wr IntKind.u8 (Int.fdiv (List.getD (DX.H x_1) (6 : Nat) (0 : Int)) ((2 : Int) ^ min
  (Int.toNat (16 : Int)) (IntKind.bits IntKind.u32))) = List.getD d (25 : Nat) (0 : Int) ∧ wr IntKind.u8 (Int.fdiv (List.getD (DX.H x_1) (6 : Nat) (0 : Int)) ((2 : Int) ^ min
  (Int.toNat (8 : Int)) (IntKind.bits IntKind.u32))) = List.getD d (26 : Nat) (0 : Int) ∧ wr IntKind.u8 (Int.fdiv (List.getD (DX.H x_1) (6 : Nat) (0 : Int)) ((2 : Int) ^ min
  (Int.toNat (0 : Int)) (IntKind.bits IntKind.u32))) = List.getD d (27 : Nat) (0 : Int) ∧ wr IntKind.u8 (Int.fdiv (List.getD (DX.H x_1) (7 : Nat) (0 : Int)) ((2 : Int) ^ min
  (Int.toNat (24 : Int)) (IntKind.bits IntKind.u32))) = List.getD d (28 : Nat) (0 : Int) ∧ wr IntKind.u8 (Int.fdiv (List.getD (DX.H x_1) (7 : Nat) (0 : Int)) ((2 : Int) ^ min
  (Int.toNat (16 : Int)) (IntKind.bits IntKind.u32))) = List.getD d (29 : Nat) (0 : Int) ∧ wr IntKind.u8 (Int.fdiv (List.getD (DX.H x_1) (7 : Nat) (0 : Int)) ((2 : Int) ^ min
  (Int.toNat (8 : Int)) (IntKind.bits IntKind.u32))) = List.getD d (30 : Nat) (0 : Int) ∧ wr IntKind.u8 (Int.fdiv (List.getD (DX.H x_1) (7 : Nat) (0 : Int)) ((2 : Int) ^ min
  (Int.toNat (0 : Int)) (IntKind.bits IntKind.u32))) = List.getD d (31 : Nat) (0 : Int) ∧ True)) ∧ ∀ (x : DX), R false x → (decide ((↑(0 : Nat) : Int) > (0 : Int)) = true → ((0 :
  Int) ≤ (64 : Int) ∧ (64 : Int) ≤ (↑(0 : Nat) : Int)) ∧ ((8 : Nat) = (8 : Nat) ∧ List.length (List.take (Int.toNat (64 : Int)) ([] : List Int)) = (64 : Nat)) ∧ ((0 : Int) ≤ (64 :
  Int) ∧ (64 : Int) ≤ (↑(0 : Nat) : Int)) ∧ ((∃ (x' : DX), R true x' ∧ x'.2 + (1 : Nat) ≤ x.2 ∧ true = true ∧ ((0 : Nat) = (0 : Nat) ∧ False ∧ (0 : Nat) = (0 : Nat) ∧ True) ∧
  (List.getD (blkF [List.getD (DX.H x) (0 : Nat) (0 : Int), List.getD (DX.H x) (1 : Nat) (0 : Int), List.getD (DX.H x) (2 : Nat) (0 : Int), List.getD (DX.H x) (3 : Nat) (0 : Int),
  List.getD (DX.H x) (4 : Nat) (0 : Int), List.getD (DX.H x) (5 : Nat) (0 : Int), List.getD (DX.H x) (6 : Nat) (0 : Int), List.getD (DX.H x) (7 : Nat) (0 : Int)] (List.take
  (Int.toNat (64 : Int)) ([] : List Int))) (0 : Nat) (0 : Int) = List.getD (DX.H x') (0 : Nat) (0 : Int) ∧ List.getD (blkF [List.getD (DX.H x) (0 : Nat) (0 : Int), List.getD (DX.H x)
  (1 : Nat) (0 : Int), List.getD (DX.H x) (2 : Nat) (0 : Int), List.getD (DX.H x) (3 : Nat) (0 : Int), List.getD (DX.H x) (4 : Nat) (0 : Int), List.getD (DX.H x) (5 : Nat) (0 : Int),
  List.getD (DX.H x) (6 : Nat) (0 : Int), List.getD (DX.H x) (7 : Nat) (0 : Int)] (List.take (Int.toNat (64 : Int)) ([] : List Int))) (1 : Nat) (0 : Int) = List.getD (DX.H x') (1 :
  Nat) (0 : Int) ∧ List.getD (blkF [List.getD (DX.H x) (0 : Nat) (0 : Int), List.getD (DX.H x) (1 : Nat) (0 : Int), List.getD (DX.H x) (2 : Nat) (0 : Int), List.getD (DX.H x) (3 :
  Nat) (0 : Int), List.getD (DX.H x) (4 : Nat) (0 : Int), List.getD (DX.H x) (5 : Nat) (0 : Int), List.getD (DX.H x) (6 : Nat) (0 : Int), List.getD (DX.H x) (7 : Nat) (0 : Int)]
  (List.take (Int.toNat (64 : Int)) ([] : List Int))) (2 : Nat) (0 : Int) = List.getD (DX.H x') (2 : Nat) (0 : Int) ∧ List.getD (blkF [List.getD (DX.H x) (0 : Nat) (0 : Int),
  List.getD (DX.H x) (1 : Nat) (0 : Int), List.getD (DX.H x) (2 : Nat) (0 : Int), List.getD (DX.H x) (3 : Nat) (0 : Int), List.getD (DX.H x) (4 : Nat) (0 : Int), List.getD (DX.H x)
  (5 : Nat) (0 : Int), List.getD (DX.H x) (6 : Nat) (0 : Int), List.getD (DX.H x) (7 : Nat) (0 : Int)] (List.take (Int.toNat (64 : Int)) ([] : List Int))) (3 : Nat) (0 : Int) =
  List.getD (DX.H x') (3 : Nat) (0 : Int) ∧ List.getD (blkF [List.getD (DX.H x) (0 : Nat) (0 : Int), List.getD (DX.H x) (1 : Nat) (0 : Int), List.getD (DX.H x) (2 : Nat) (0 : Int),
  List.getD (DX.H x) (3 : Nat) (0 : Int), List.getD (DX.H x) (4 : Nat) (0 : Int), List.getD (DX.H x) (5 : Nat) (0 : Int), List.getD (DX.H x) (6 : Nat) (0 : Int), List.getD (DX.H x)
  (7 : Nat) (0 : Int)] (List.take (Int.toNat (64 : Int)) ([] : List Int))) (4 : Nat) (0 : Int) = List.getD (DX.H x') (4 : Nat) (0 : Int) ∧ List.getD (blkF [List.getD (DX.H x) (0 :
  Nat) (0 : Int), List.getD (DX.H x) (1 : Nat) (0 : Int), List.getD (DX.H x) (2 : Nat) (0 : Int), List.getD (DX.H x) (3 : Nat) (0 : Int), List.getD (DX.H x) (4 : Nat) (0 : Int),
  List.getD (DX.H x) (5 : Nat) (0 : Int), List.getD (DX.H x) (6 : Nat) (0 : Int), List.getD (DX.H x) (7 : Nat) (0 : Int)] (List.take (Int.toNat (64 : Int)) ([] : List Int))) (5 :
  Nat) (0 : Int) = List.getD (DX.H x') (5 : Nat) (0 : Int) ∧ List.getD (blkF [List.getD (DX.H x) (0 : Nat) (0 : Int), List.getD (DX.H x) (1 : Nat) (0 : Int), List.getD (DX.H x) (2 :
  Nat) (0 : Int), List.getD (DX.H x) (3 : Nat) (0 : Int), List.getD (DX.H x) (4 : Nat) (0 : Int), List.getD (DX.H x) (5 : Nat) (0 : Int), List.getD (DX.H x) (6 : Nat) (0 : Int),
  List.getD (DX.H x) (7 : Nat) (0 : Int)] (List.take (Int.toNat (64 : Int)) ([] : List Int))) (6 : Nat) (0 : Int) = List.getD (DX.H x') (6 : Nat) (0 : Int) ∧ List.getD (blkF
  [List.getD (DX.H x) (0 : Nat) (0 : Int), List.getD (DX.H x) (1 : Nat) (0 : Int), List.getD (DX.H x) (2 : Nat) (0 : Int), List.getD (DX.H x) (3 : Nat) (0 : Int), List.getD (DX.H x)
  (4 : Nat) (0 : Int), List.getD (DX.H x) (5 : Nat) (0 : Int), List.getD (DX.H x) (6 : Nat) (0 : Int), List.getD (DX.H x) (7 : Nat) (0 : Int)] (List.take (Int.toNat (64 : Int)) ([] :
  List Int))) (7 : Nat) (0 : Int) = List.getD (DX.H x') (7 : Nat) (0 : Int) ∧ True) ∧ False ∧ ((0 : Int) = (0 : Int) ∧ (0 : Int) = (0 : Int) ∧ (0 : Int) = (0 : Int) ∧ (0 : Int) = (0
  : Int) ∧ (0 : Int) = (0 : Int) ∧ (0 : Int) = (0 : Int) ∧ (0 : Int) = (0 : Int) ∧ (0 : Int) = (0 : Int) ∧ (0 : Int) = (0 : Int) ∧ (0 : Int) = (0 : Int) ∧ (0 : Int) = (0 : Int) ∧ (0
  : Int) = (0 : Int) ∧ (0 : Int) = (0 : Int) ∧ (0 : Int) = (0 : Int) ∧ (0 : Int) = (0 : Int) ∧ (0 : Int) = (0 : Int) ∧ (0 : Int) = (0 : Int) ∧ (0 : Int) = (0 : Int) ∧ (0 : Int) = (0
  : Int) ∧ (0 : Int) = (0 : Int) ∧ (0 : Int) = (0 : Int) ∧ (0 : Int) = (0 : Int) ∧ (0 : Int) = (0 : Int) ∧ (0 : Int) = (0 : Int) ∧ (0 : Int) = (0 : Int) ∧ (0 : Int) = (0 : Int) ∧ (0
  : Int) = (0 : Int) ∧ (0 : Int) = (0 : Int) ∧ (0 : Int) = (0 : Int) ∧ (0 : Int) = (0 : Int) ∧ (0 : Int) = (0 : Int) ∧ (0 : Int) = (0 : Int) ∧ True) ∧ True) ∨ ∃ (x' : DX), R false x'
  ∧ x'.2 + (1 : Nat) ≤ x.2 ∧ true = true ∧ ((0 : Nat) = (0 : Nat) ∧ (List.drop (Int.toNat (64 : Int)) ([] : List Int) = ([] : List Int) ∧ (false = true → false = true)) ∧ (0 : Nat) =
  (0 : Nat) ∧ True) ∧ (List.getD (blkF [List.getD (DX.H x) (0 : Nat) (0 : Int), List.getD (DX.H x) (1 : Nat) (0 : Int), List.getD (DX.H x) (2 : Nat) (0 : Int), List.getD (DX.H x) (3
  : Nat) (0 : Int), List.getD (DX.H x) (4 : Nat) (0 : Int), List.getD (DX.H x) (5 : Nat) (0 : Int), List.getD (DX.H x) (6 : Nat) (0 : Int), List.getD (DX.H x) (7 : Nat) (0 : Int)]
  (List.take (Int.toNat (64 : Int)) ([] : List Int))) (0 : Nat) (0 : Int) = List.getD (DX.H x') (0 : Nat) (0 : Int) ∧ List.getD (blkF [List.getD (DX.H x) (0 : Nat) (0 : Int),
  List.getD (DX.H x) (1 : Nat) (0 : Int), List.getD (DX.H x) (2 : Nat) (0 : Int), List.getD (DX.H x) (3 : Nat) (0 : Int), List.getD (DX.H x) (4 : Nat) (0 : Int), List.getD (DX.H x)
  (5 : Nat) (0 : Int), List.getD (DX.H x) (6 : Nat) (0 : Int), List.getD (DX.H x) (7 : Nat) (0 : Int)] (List.take (Int.toNat (64 : Int)) ([] : List Int))) (1 : Nat) (0 : Int) =
  List.getD (DX.H x') (1 : Nat) (0 : Int) ∧ List.getD (blkF [List.getD (DX.H x) (0 : Nat) (0 : Int), List.getD (DX.H x) (1 : Nat) (0 : Int), List.getD (DX.H x) (2 : Nat) (0 : Int),
  List.getD (DX.H x) (3 : Nat) (0 : Int), List.getD (DX.H x) (4 : Nat) (0 : Int), List.getD (DX.H x) (5 : Nat) (0 : Int), List.getD (DX.H x) (6 : Nat) (0 : Int), List.getD (DX.H x)
  (7 : Nat) (0 : Int)] (List.take (Int.toNat (64 : Int)) ([] : List Int))) (2 : Nat) (0 : Int) = List.getD (DX.H x') (2 : Nat) (0 : Int) ∧ List.getD (blkF [List.getD (DX.H x) (0 :
  Nat) (0 : Int), List.getD (DX.H x) (1 : Nat) (0 : Int), List.getD (DX.H x) (2 : Nat) (0 : Int), List.getD (DX.H x) (3 : Nat) (0 : Int), List.getD (DX.H x) (4 : Nat) (0 : Int),
  List.getD (DX.H x) (5 : Nat) (0 : Int), List.getD (DX.H x) (6 : Nat) (0 : Int), List.getD (DX.H x) (7 : Nat) (0 : Int)] (List.take (Int.toNat (64 : Int)) ([] : List Int))) (3 :
  Nat) (0 : Int) = List.getD (DX.H x') (3 : Nat) (0 : Int) ∧ List.getD (blkF [List.getD (DX.H x) (0 : Nat) (0 : Int), List.getD (DX.H x) (1 : Nat) (0 : Int), List.getD (DX.H x) (2 :
  Nat) (0 : Int), List.getD (DX.H x) (3 : Nat) (0 : Int), List.getD (DX.H x) (4 : Nat) (0 : Int), List.getD (DX.H x) (5 : Nat) (0 : Int), List.getD (DX.H x) (6 : Nat) (0 : Int),
  List.getD (DX.H x) (7 : Nat) (0 : Int)] (List.take (Int.toNat (64 : Int)) ([] : List Int))) (4 : Nat) (0 : Int) = List.getD (DX.H x') (4 : Nat) (0 : Int) ∧ List.getD (blkF
  [List.getD (DX.H x) (0 : Nat) (0 : Int), List.getD (DX.H x) (1 : Nat) (0 : Int), List.getD (DX.H x) (2 : Nat) (0 : Int), List.getD (DX.H x) (3 : Nat) (0 : Int), List.getD (DX.H x)
  (4 : Nat) (0 : Int), List.getD (DX.H x) (5 : Nat) (0 : Int), List.getD (DX.H x) (6 : Nat) (0 : Int), List.getD (DX.H x) (7 : Nat) (0 : Int)] (List.take (Int.toNat (64 : Int)) ([] :
  List Int))) (5 : Nat) (0 : Int) = List.getD (DX.H x') (5 : Nat) (0 : Int) ∧ List.getD (blkF [List.getD (DX.H x) (0 : Nat) (0 : Int), List.getD (DX.H x) (1 : Nat) (0 : Int),
  List.getD (DX.H x) (2 : Nat) (0 : Int), List.getD (DX.H x) (3 : Nat) (0 : Int), List.getD (DX.H x) (4 : Nat) (0 : Int), List.getD (DX.H x) (5 : Nat) (0 : Int), List.getD (DX.H x)
  (6 : Nat) (0 : Int), List.getD (DX.H x) (7 : Nat) (0 : Int)] (List.take (Int.toNat (64 : Int)) ([] : List Int))) (6 : Nat) (0 : Int) = List.getD (DX.H x') (6 : Nat) (0 : Int) ∧
  List.getD (blkF [List.getD (DX.H x) (0 : Nat) (0 : Int), List.getD (DX.H x) (1 : Nat) (0 : Int), List.getD (DX.H x) (2 : Nat) (0 : Int), List.getD (DX.H x) (3 : Nat) (0 : Int),
  List.getD (DX.H x) (4 : Nat) (0 : Int), List.getD (DX.H x) (5 : Nat) (0 : Int), List.getD (DX.H x) (6 : Nat) (0 : Int), List.getD (DX.H x) (7 : Nat) (0 : Int)] (List.take
  (Int.toNat (64 : Int)) ([] : List Int))) (7 : Nat) (0 : Int) = List.getD (DX.H x') (7 : Nat) (0 : Int) ∧ True) ∧ ((0 : Int) = (0 : Int) ∧ (0 : Int) = (0 : Int) ∧ (0 : Int) = (0 :
  Int) ∧ (0 : Int) = (0 : Int) ∧ (0 : Int) = (0 : Int) ∧ (0 : Int) = (0 : Int) ∧ (0 : Int) = (0 : Int) ∧ (0 : Int) = (0 : Int) ∧ (0 : Int) = (0 : Int) ∧ (0 : Int) = (0 : Int) ∧ (0 :
  Int) = (0 : Int) ∧ (0 : Int) = (0 : Int) ∧ (0 : Int) = (0 : Int) ∧ (0 : Int) = (0 : Int) ∧ (0 : Int) = (0 : Int) ∧ (0 : Int) = (0 : Int) ∧ (0 : Int) = (0 : Int) ∧ (0 : Int) = (0 :
  Int) ∧ (0 : Int) = (0 : Int) ∧ (0 : Int) = (0 : Int) ∧ (0 : Int) = (0 : Int) ∧ (0 : Int) = (0 : Int) ∧ (0 : Int) = (0 : Int) ∧ (0 : Int) = (0 : Int) ∧ (0 : Int) = (0 : Int) ∧ (0 :
  Int) = (0 : Int) ∧ (0 : Int) = (0 : Int) ∧ (0 : Int) = (0 : Int) ∧ (0 : Int) = (0 : Int) ∧ (0 : Int) = (0 : Int) ∧ (0 : Int) = (0 : Int) ∧ (0 : Int) = (0 : Int) ∧ True) ∧ True)) ∧
  (decide ((↑(0 : Nat) : Int) > (0 : Int)) = false → wr IntKind.u8 (Int.fdiv (List.getD (DX.H x) (0 : Nat) (0 : Int)) ((2 : Int) ^ min (Int.toNat (24 : Int)) (IntKind.bits
  IntKind.u32))) = List.getD d (0 : Nat) (0 : Int) ∧ wr IntKind.u8 (Int.fdiv (List.getD (DX.H x) (0 : Nat) (0 : Int)) ((2 : Int) ^ min (Int.toNat (16 : Int)) (IntKind.bits
  IntKind.u32))) = List.getD d (1 : Nat) (0 : Int) ∧ wr IntKind.u8 (Int.fdiv (List.getD (DX.H x) (0 : Nat) (0 : Int)) ((2 : Int) ^ min (Int.toNat (8 : Int)) (IntKind.bits
  IntKind.u32))) = List.getD d (2 : Nat) (0 : Int) ∧ wr IntKind.u8 (Int.fdiv (List.getD (DX.H x) (0 : Nat) (0 : Int)) ((2 : Int) ^ min (Int.toNat (0 : Int)) (IntKind.bits
  IntKind.u32))) = List.getD d (3 : Nat) (0 : Int) ∧ wr IntKind.u8 (Int.fdiv (List.getD (DX.H x) (1 : Nat) (0 : Int)) ((2 : Int) ^ min (Int.toNat (24 : Int)) (IntKind.bits
  IntKind.u32))) = List.getD d (4 : Nat) (0 : Int) ∧ wr IntKind.u8 (Int.fdiv (List.getD (DX.H x) (1 : Nat) (0 : Int)) ((2 : Int) ^ min (Int.toNat (16 : Int)) (IntKind.bits
  IntKind.u32))) = List.getD d (5 : Nat) (0 : Int) ∧ wr IntKind.u8 (Int.fdiv (List.getD (DX.H x) (1 : Nat) (0 : Int)) ((2 : Int) ^ min (Int.toNat (8 : Int)) (IntKind.bits
  IntKind.u32))) = List.getD d (6 : Nat) (0 : Int) ∧ wr IntKind.u8 (Int.fdiv (List.getD (DX.H x) (1 : Nat) (0 : Int)) ((2 : Int) ^ min (Int.toNat (0 : Int)) (IntKind.bits
  IntKind.u32))) = List.getD d (7 : Nat) (0 : Int) ∧ wr IntKind.u8 (Int.fdiv (List.getD (DX.H x) (2 : Nat) (0 : Int)) ((2 : Int) ^ min (Int.toNat (24 : Int)) (IntKind.bits
  IntKind.u32))) = List.getD d (8 : Nat) (0 : Int) ∧ wr IntKind.u8 (Int.fdiv (List.getD (DX.H x) (2 : Nat) (0 : Int)) ((2 : Int) ^ min (Int.toNat (16 : Int)) (IntKind.bits
  IntKind.u32))) = List.getD d (9 : Nat) (0 : Int) ∧ wr IntKind.u8 (Int.fdiv (List.getD (DX.H x) (2 : Nat) (0 : Int)) ((2 : Int) ^ min (Int.toNat (8 : Int)) (IntKind.bits
  IntKind.u32))) = List.getD d (10 : Nat) (0 : Int) ∧ wr IntKind.u8 (Int.fdiv (List.getD (DX.H x) (2 : Nat) (0 : Int)) ((2 : Int) ^ min (Int.toNat (0 : Int)) (IntKind.bits
  IntKind.u32))) = List.getD d (11 : Nat) (0 : Int) ∧ wr IntKind.u8 (Int.fdiv (List.getD (DX.H x) (3 : Nat) (0 : Int)) ((2 : Int) ^ min (Int.toNat (24 : Int)) (IntKind.bits
  IntKind.u32))) = List.getD d (12 : Nat) (0 : Int) ∧ wr IntKind.u8 (Int.fdiv (List.getD (DX.H x) (3 : Nat) (0 : Int)) ((2 : Int) ^ min (Int.toNat (16 : Int)) (IntKind.bits
  IntKind.u32))) = List.getD d (13 : Nat) (0 : Int) ∧ wr IntKind.u8 (Int.fdiv (List.getD (DX.H x) (3 : Nat) (0 : Int)) ((2 : Int) ^ min (Int.toNat (8 : Int)) (IntKind.bits
  IntKind.u32))) = List.getD d (14 : Nat) (0 : Int) ∧ wr IntKind.u8 (Int.fdiv (List.getD (DX.H x) (3 : Nat) (0 : Int)) ((2 : Int) ^ min (Int.toNat (0 : Int)) (IntKind.bits
  IntKind.u32))) = List.getD d (15 : Nat) (0 : Int) ∧ wr IntKind.u8 (Int.fdiv (List.getD (DX.H x) (4 : Nat) (0 : Int)) ((2 : Int) ^ min (Int.toNat (24 : Int)) (IntKind.bits
  IntKind.u32))) = List.getD d (16 : Nat) (0 : Int) ∧ wr IntKind.u8 (Int.fdiv (List.getD (DX.H x) (4 : Nat) (0 : Int)) ((2 : Int) ^ min (Int.toNat (16 : Int)) (IntKind.bits
  IntKind.u32))) = List.getD d (17 : Nat) (0 : Int) ∧ wr IntKind.u8 (Int.fdiv (List.getD (DX.H x) (4 : Nat) (0 : Int)) ((2 : Int) ^ min (Int.toNat (8 : Int)) (IntKind.bits
  IntKind.u32))) = List.getD d (18 : Nat) (0 : Int) ∧ wr IntKind.u8 (Int.fdiv (List.getD (DX.H x) (4 : Nat) (0 : Int)) ((2 : Int) ^ min (Int.toNat (0 : Int)) (IntKind.bits
  IntKind.u32))) = List.getD d (19 : Nat) (0 : Int) ∧ wr IntKind.u8 (Int.fdiv (List.getD (DX.H x) (5 : Nat) (0 : Int)) ((2 : Int) ^ min (Int.toNat (24 : Int)) (IntKind.bits
  IntKind.u32))) = List.getD d (20 : Nat) (0 : Int) ∧ wr IntKind.u8 (Int.fdiv (List.getD (DX.H x) (5 : Nat) (0 : Int)) ((2 : Int) ^ min (Int.toNat (16 : Int)) (IntKind.bits
  IntKind.u32))) = List.getD d (21 : Nat) (0 : Int) ∧ wr IntKind.u8 (Int.fdiv (List.getD (DX.H x) (5 : Nat) (0 : Int)) ((2 : Int) ^ min (Int.toNat (8 : Int)) (IntKind.bits
  IntKind.u32))) = List.getD d (22 : Nat) (0 : Int) ∧ wr IntKind.u8 (Int.fdiv (List.getD (DX.H x) (5 : Nat) (0 : Int)) ((2 : Int) ^ min (Int.toNat (0 : Int)) (IntKind.bits
  IntKind.u32))) = List.getD d (23 : Nat) (0 : Int) ∧ wr IntKind.u8 (Int.fdiv (List.getD (DX.H x) (6 : Nat) (0 : Int)) ((2 : Int) ^ min (Int.toNat (24 : Int)) (IntKind.bits
  IntKind.u32))) = List.getD d (24 : Nat) (0 : Int) ∧ wr IntKind.u8 (Int.fdiv (List.getD (DX.H x) (6 : Nat) (0 : Int)) ((2 : Int) ^ min (Int.toNat (16 : Int)) (IntKind.bits
  IntKind.u32))) = List.getD d (25 : Nat) (0 : Int) ∧ wr IntKind.u8 (Int.fdiv (List.getD (DX.H x) (6 : Nat) (0 : Int)) ((2 : Int) ^ min (Int.toNat (8 : Int)) (IntKind.bits
  IntKind.u32))) = List.getD d (26 : Nat) (0 : Int) ∧ wr IntKind.u8 (Int.fdiv (List.getD (DX.H x) (6 : Nat) (0 : Int)) ((2 : Int) ^ min (Int.toNat (0 : Int)) (IntKind.bits
  IntKind.u32))) = List.getD d (27 : Nat) (0 : Int) ∧ wr IntKind.u8 (Int.fdiv (List.getD (DX.H x) (7 : Nat) (0 : Int)) ((2 : Int) ^ min (Int.toNat (24 : Int)) (IntKind.bits
  IntKind.u32))) = List.getD d (28 : Nat) (0 : Int) ∧ wr IntKind.u8 (Int.fdiv (List.getD (DX.H x) (7 : Nat) (0 : Int)) ((2 : Int) ^ min (Int.toNat (16 : Int)) (IntKind.bits
  IntKind.u32))) = List.getD d (29 : Nat) (0 : Int) ∧ wr IntKind.u8 (Int.fdiv (List.getD (DX.H x) (7 : Nat) (0 : Int)) ((2 : Int) ^ min (Int.toNat (8 : Int)) (IntKind.bits
  IntKind.u32))) = List.getD d (30 : Nat) (0 : Int) ∧ wr IntKind.u8 (Int.fdiv (List.getD (DX.H x) (7 : Nat) (0 : Int)) ((2 : Int) ^ min (Int.toNat (0 : Int)) (IntKind.bits
  IntKind.u32))) = List.getD d (31 : Nat) (0 : Int) ∧ True))))) ∧ ∀ (x : DX), R false x → (decide ((↑(DX.k x) : Int) < (↑(List.length ps) : Int)) = true → (0 : Int) ≤ (↑(DX.k x) :
  Int) ∧ (↑(DX.k x) : Int) + (1 : Int) ≤ (↑(List.length ps) : Int) ∧ ∀ (x_1 : List Int), ps[Int.toNat (↑(DX.k x) : Int)]? = some x_1 → (x_1 = ([] : List Int) → (∃ (x' : DX), R true
  x' ∧ x'.2 + (1 : Nat) ≤ x.2 ∧ true = true ∧ ((0 : Nat) = (0 : Nat) ∧ False ∧ (ps = ps ∧ (false = true → false = true)) ∧ (↑(List.length ps) : Int) = (↑(List.length ps) : Int) ∧ wr
  IntKind.i64 ((↑(DX.k x) : Int) + (1 : Int)) = (↑(DX.k x') : Int) ∧ True) ∧ ((0 : Int) = (0 : Int) ∧ (0 : Int) = (0 : Int) ∧ (0 : Int) = (0 : Int) ∧ (0 : Int) = (0 : Int) ∧ (0 :
  Int) = (0 : Int) ∧ (0 : Int) = (0 : Int) ∧ (0 : Int) = (0 : Int) ∧ (0 : Int) = (0 : Int) ∧ (0 : Int) = (0 : Int) ∧ (0 : Int) = (0 : Int) ∧ (0 : Int) = (0 : Int) ∧ (0 : Int) = (0 :
  Int) ∧ (0 : Int) = (0 : Int) ∧ (0 : Int) = (0 : Int) ∧ (0 : Int) = (0 : Int) ∧ (0 : Int) = (0 : Int) ∧ (0 : Int) = (0 : Int) ∧ (0 : Int) = (0 : Int) ∧ (0 : Int) = (0 : Int) ∧ (0 :
  Int) = (0 : Int) ∧ (0 : Int) = (0 : Int) ∧ (0 : Int) = (0 : Int) ∧ (0 : Int) = (0 : Int) ∧ (0 : Int) = (0 : Int) ∧ (0 : Int) = (0 : Int) ∧ (0 : Int) = (0 : Int) ∧ (0 : Int) = (0 :
  Int) ∧ (0 : Int) = (0 : Int) ∧ (0 : Int) = (0 : Int) ∧ (0 : Int) = (0 : Int) ∧ (0 : Int) = (0 : Int) ∧ (0 : Int) = (0 : Int) ∧ True) ∧ True) ∨ ∃ (x' : DX), R false x' ∧ x'.2 + (1 :
  Nat) ≤ x.2 ∧ true = true ∧ ((0 : Nat) = (0 : Nat) ∧ ((0 : Nat) = (0 : Nat) ∧ List.length (DX.D x) = List.length (DX.D x') ∧ True) ∧ (ps = ps ∧ (false = true → false = true)) ∧
  (↑(List.length ps) : Int) = (↑(List.length ps) : Int) ∧ wr IntKind.i64 ((↑(DX.k x) : Int) + (1 : Int)) = (↑(DX.k x') : Int) ∧ True) ∧ (DX.D x = DX.D x' ∧ (0 : Nat) = (0 : Nat)) ∧
  ((0 : Int) = (0 : Int) ∧ (0 : Int) = (0 : Int) ∧ (0 : Int) = (0 : Int) ∧ (0 : Int) = (0 : Int) ∧ (0 : Int) = (0 : Int) ∧ (0 : Int) = (0 : Int) ∧ (0 : Int) = (0 : Int) ∧ (0 : Int) =
  (0 : Int) ∧ (0 : Int) = (0 : Int) ∧ (0 : Int) = (0 : Int) ∧ (0 : Int) = (0 : Int) ∧ (0 : Int) = (0 : Int) ∧ (0 : Int) = (0 : Int) ∧ (0 : Int) = (0 : Int) ∧ (0 : Int) = (0 : Int) ∧
  (0 : Int) = (0 : Int) ∧ (0 : Int) = (0 : Int) ∧ (0 : Int) = (0 : Int) ∧ (0 : Int) = (0 : Int) ∧ (0 : Int) = (0 : Int) ∧ (0 : Int) = (0 : Int) ∧ (0 : Int) = (0 : Int) ∧ (0 : Int) =
  (0 : Int) ∧ (0 : Int) = (0 : Int) ∧ (0 : Int) = (0 : Int) ∧ (0 : Int) = (0 : Int) ∧ (0 : Int) = (0 : Int) ∧ (0 : Int) = (0 : Int) ∧ (0 : Int) = (0 : Int) ∧ (0 : Int) = (0 : Int) ∧
  (0 : Int) = (0 : Int) ∧ (0 : Int) = (0 : Int) ∧ True) ∧ True) ∧ (x_1 ≠ ([] : List Int) → (List.length (DX.D x) ≤ List.length (DX.D x) ∧ (0 : Nat) ≤ List.length (DX.D x) ∧
  (List.length (DX.D x) + List.length x_1) * (1 : Nat) ≤ (140737488355328 : Nat)) ∧ ((∃ (x' : DX), R true x' ∧ x'.2 + (1 : Nat) ≤ x.2 ∧ true = true ∧ ((0 : Nat) = (0 : Nat) ∧ False ∧
  (ps = ps ∧ (false = true → false = true)) ∧ (↑(List.length ps) : Int) = (↑(List.length ps) : Int) ∧ wr IntKind.i64 ((↑(DX.k x) : Int) + (1 : Int)) = (↑(DX.k x') : Int) ∧ True) ∧
  ((0 : Int) = (0 : Int) ∧ (0 : Int) = (0 : Int) ∧ (0 : Int) = (0 : Int) ∧ (0 : Int) = (0 : Int) ∧ (0 : Int) = (0 : Int) ∧ (0 : Int) = (0 : Int) ∧ (0 : Int) = (0 : Int) ∧ (0 : Int) =
  (0 : Int) ∧ (0 : Int) = (0 : Int) ∧ (0 : Int) = (0 : Int) ∧ (0 : Int) = (0 : Int) ∧ (0 : Int) = (0 : Int) ∧ (0 : Int) = (0 : Int) ∧ (0 : Int) = (0 : Int) ∧ (0 : Int) = (0 : Int) ∧
  (0 : Int) = (0 : Int) ∧ (0 : Int) = (0 : Int) ∧ (0 : Int) = (0 : Int) ∧ (0 : Int) = (0 : Int) ∧ (0 : Int) = (0 : Int) ∧ (0 : Int) = (0 : Int) ∧ (0 : Int) = (0 : Int) ∧ (0 : Int) =
  (0 : Int) ∧ (0 : Int) = (0 : Int) ∧ (0 : Int) = (0 : Int) ∧ (0 : Int) = (0 : Int) ∧ (0 : Int) = (0 : Int) ∧ (0 : Int) = (0 : Int) ∧ (0 : Int) = (0 : Int) ∧ (0 : Int) = (0 : Int) ∧
  (0 : Int) = (0 : Int) ∧ (0 : Int) = (0 : Int) ∧ True) ∧ True) ∨ ∃ (x' : DX), R false x' ∧ x'.2 + (1 : Nat) ≤ x.2 ∧ true = true ∧ ((0 : Nat) = (0 : Nat) ∧ ((0 : Nat) = (0 : Nat) ∧
  List.length (DX.D x) + List.length x_1 = List.length (DX.D x') ∧ True) ∧ (ps = ps ∧ (false = true → false = true)) ∧ (↑(List.length ps) : Int) = (↑(List.length ps) : Int) ∧ wr
  IntKind.i64 ((↑(DX.k x) : Int) + (1 : Int)) = (↑(DX.k x') : Int) ∧ True) ∧ (List.take (List.length (DX.D x)) (DX.D x) ++ x_1 = DX.D x' ∧ (0 : Nat) = (0 : Nat)) ∧ ((0 : Int) = (0 :
  Int) ∧ (0 : Int) = (0 : Int) ∧ (0 : Int) = (0 : Int) ∧ (0 : Int) = (0 : Int) ∧ (0 : Int) = (0 : Int) ∧ (0 : Int) = (0 : Int) ∧ (0 : Int) = (0 : Int) ∧ (0 : Int) = (0 : Int) ∧ (0 :
  Int) = (0 : Int) ∧ (0 : Int) = (0 : Int) ∧ (0 : Int) = (0 : Int) ∧ (0 : Int) = (0 : Int) ∧ (0 : Int) = (0 : Int) ∧ (0 : Int) = (0 : Int) ∧ (0 : Int) = (0 : Int) ∧ (0 : Int) = (0 :
  Int) ∧ (0 : Int) = (0 : Int) ∧ (0 : Int) = (0 : Int) ∧ (0 : Int) = (0 : Int) ∧ (0 : Int) = (0 : Int) ∧ (0 : Int) = (0 : Int) ∧ (0 : Int) = (0 : Int) ∧ (0 : Int) = (0 : Int) ∧ (0 :
  Int) = (0 : Int) ∧ (0 : Int) = (0 : Int) ∧ (0 : Int) = (0 : Int) ∧ (0 : Int) = (0 : Int) ∧ (0 : Int) = (0 : Int) ∧ (0 : Int) = (0 : Int) ∧ (0 : Int) = (0 : Int) ∧ (0 : Int) = (0 :
  Int) ∧ (0 : Int) = (0 : Int) ∧ True) ∧ True))) ∧ (decide ((↑(DX.k x) : Int) < (↑(List.length ps) : Int)) = false → (List.length (DX.D x) ≤ List.length (DX.D x) ∧ (0 : Nat) ≤
  List.length (DX.D x) ∧ (List.length (DX.D x) + (1 : Nat)) * (1 : Nat) ≤ (140737488355328 : Nat)) ∧ ∃ (R : DX → Prop), (∃ (x_1 : DX), R x_1 ∧ true = true ∧ ((0 : Nat) = (0 : Nat) ∧
  ((0 : Nat) = (0 : Nat) ∧ List.length (DX.D x) + (1 : Nat) = List.length (DX.D x_1) ∧ True) ∧ wr IntKind.u64 (wr IntKind.u64 (↑(List.length (DX.D x)) : Int) * (8 : Int)) = wr
  IntKind.u64 (wr IntKind.u64 (↑(List.length (DX.D x)) : Int) * (8 : Int)) ∧ True) ∧ (List.take (List.length (DX.D x)) (DX.D x) ++ [(128 : Int)] = DX.D x_1 ∧ (0 : Nat) = (0 : Nat)) ∧
  ((0 : Int) = (0 : Int) ∧ (0 : Int) = (0 : Int) ∧ (0 : Int) = (0 : Int) ∧ (0 : Int) = (0 : Int) ∧ (0 : Int) = (0 : Int) ∧ (0 : Int) = (0 : Int) ∧ (0 : Int) = (0 : Int) ∧ (0 : Int) =
  (0 : Int) ∧ (0 : Int) = (0 : Int) ∧ (0 : Int) = (0 : Int) ∧ (0 : Int) = (0 : Int) ∧ (0 : Int) = (0 : Int) ∧ (0 : Int) = (0 : Int) ∧ (0 : Int) = (0 : Int) ∧ (0 : Int) = (0 : Int) ∧
  (0 : Int) = (0 : Int) ∧ (0 : Int) = (0 : Int) ∧ (0 : Int) = (0 : Int) ∧ (0 : Int) = (0 : Int) ∧ (0 : Int) = (0 : Int) ∧ (0 : Int) = (0 : Int) ∧ (0 : Int) = (0 : Int) ∧ (0 : Int) =
  (0 : Int) ∧ (0 : Int) = (0 : Int) ∧ (0 : Int) = (0 : Int) ∧ (0 : Int) = (0 : Int) ∧ (0 : Int) = (0 : Int) ∧ (0 : Int) = (0 : Int) ∧ (0 : Int) = (0 : Int) ∧ (0 : Int) = (0 : Int) ∧
  (0 : Int) = (0 : Int) ∧ (0 : Int) = (0 : Int) ∧ True) ∧ True) ∧ ∀ (x_1 : DX), R x_1 → ((Int.tmod (↑(List.length (DX.D x_1)) : Int) (64 : Int) != (56 : Int)) = true → (List.length
  (DX.D x_1) ≤ List.length (DX.D x_1) ∧ (0 : Nat) ≤ List.length (DX.D x_1) ∧ (List.length (DX.D x_1) + (1 : Nat)) * (1 : Nat) ≤ (140737488355328 : Nat)) ∧ ∃ (x' : DX), R x' ∧ x'.2 +
  (1 : Nat) ≤ x_1.2 ∧ true = true ∧ ((0 : Nat) = (0 : Nat) ∧ ((0 : Nat) = (0 : Nat) ∧ List.length (DX.D x_1) + (1 : Nat) = List.length (DX.D x') ∧ True) ∧ wr IntKind.u64 (wr
  IntKind.u64 (↑(List.length (DX.D x)) : Int) * (8 : Int)) = wr IntKind.u64 (wr IntKind.u64 (↑(List.length (DX.D x)) : Int) * (8 : Int)) ∧ True) ∧ (List.take (List.length (DX.D x_1))
  (DX.D x_1) ++ [(0 : Int)] = DX.D x' ∧ (0 : Nat) = (0 : Nat)) ∧ ((0 : Int) = (0 : Int) ∧ (0 : Int) = (0 : Int) ∧ (0 : Int) = (0 : Int) ∧ (0 : Int) = (0 : Int) ∧ (0 : Int) = (0 :
  Int) ∧ (0 : Int) = (0 : Int) ∧ (0 : Int) = (0 : Int) ∧ (0 : Int) = (0 : Int) ∧ (0 : Int) = (0 : Int) ∧ (0 : Int) = (0 : Int) ∧ (0 : Int) = (0 : Int) ∧ (0 : Int) = (0 : Int) ∧ (0 :
  Int) = (0 : Int) ∧ (0 : Int) = (0 : Int) ∧ (0 : Int) = (0 : Int) ∧ (0 : Int) = (0 : Int) ∧ (0 : Int) = (0 : Int) ∧ (0 : Int) = (0 : Int) ∧ (0 : Int) = (0 : Int) ∧ (0 : Int) = (0 :
  Int) ∧ (0 : Int) = (0 : Int) ∧ (0 : Int) = (0 : Int) ∧ (0 : Int) = (0 : Int) ∧ (0 : Int) = (0 : Int) ∧ (0 : Int) = (0 : Int) ∧ (0 : Int) = (0 : Int) ∧ (0 : Int) = (0 : Int) ∧ (0 :
  Int) = (0 : Int) ∧ (0 : Int) = (0 : Int) ∧ (0 : Int) = (0 : Int) ∧ (0 : Int) = (0 : Int) ∧ (0 : Int) = (0 : Int) ∧ True) ∧ True) ∧ ((Int.tmod (↑(List.length (DX.D x_1)) : Int) (64
  : Int) != (56 : Int)) = false → ∃ (R : DX → Prop), (∃ (x_2 : DX), R x_2 ∧ true = true ∧ ((0 : Nat) = (0 : Nat) ∧ ((0 : Nat) = (0 : Nat) ∧ List.length (DX.D x_1) = List.length (DX.D
  x_2) ∧ True) ∧ wr IntKind.u64 (wr IntKind.u64 (↑(List.length (DX.D x)) : Int) * (8 : Int)) = wr IntKind.u64 (wr IntKind.u64 (↑(List.length (DX.D x)) : Int) * (8 : Int)) ∧ (56 :
  Int) = DX.j x_2 ∧ True) ∧ (DX.D x_1 = DX.D x_2 ∧ (0 : Nat) = (0 : Nat)) ∧ ((0 : Int) = (0 : Int) ∧ (0 : Int) = (0 : Int) ∧ (0 : Int) = (0 : Int) ∧ (0 : Int) = (0 : Int) ∧ (0 : Int)
  = (0 : Int) ∧ (0 : Int) = (0 : Int) ∧ (0 : Int) = (0 : Int) ∧ (0 : Int) = (0 : Int) ∧ (0 : Int) = (0 : Int) ∧ (0 : Int) = (0 : Int) ∧ (0 : Int) = (0 : Int) ∧ (0 : Int) = (0 : Int)
  ∧ (0 : Int) = (0 : Int) ∧ (0 : Int) = (0 : Int) ∧ (0 : Int) = (0 : Int) ∧ (0 : Int) = (0 : Int) ∧ (0 : Int) = (0 : Int) ∧ (0 : Int) = (0 : Int) ∧ (0 : Int) = (0 : Int) ∧ (0 : Int)
  = (0 : Int) ∧ (0 : Int) = (0 : Int) ∧ (0 : Int) = (0 : Int) ∧ (0 : Int) = (0 : Int) ∧ (0 : Int) = (0 : Int) ∧ (0 : Int) = (0 : Int) ∧ (0 : Int) = (0 : Int) ∧ (0 : Int) = (0 : Int)
  ∧ (0 : Int) = (0 : Int) ∧ (0 : Int) = (0 : Int) ∧ (0 : Int) = (0 : Int) ∧ (0 : Int) = (0 : Int) ∧ (0 : Int) = (0 : Int) ∧ True) ∧ True) ∧ ∀ (x_2 : DX), R x_2 → (decide (DX.j x_2 ≥
  (0 : Int)) = true → (0 : Int) ≤ DX.j x_2 ∧ (List.length (DX.D x_2) ≤ List.length (DX.D x_2) ∧ (0 : Nat) ≤ List.length (DX.D x_2) ∧ (List.length (DX.D x_2) + (1 : Nat)) * (1 : Nat)
  ≤ (140737488355328 : Nat)) ∧ ∃ (x' : DX), R x' ∧ x'.2 + (1 : Nat) ≤ x_2.2 ∧ true = true ∧ ((0 : Nat) = (0 : Nat) ∧ ((0 : Nat) = (0 : Nat) ∧ List.length (DX.D x_2) + (1 : Nat) =
  List.length (DX.D x') ∧ True) ∧ wr IntKind.u64 (wr IntKind.u64 (↑(List.length (DX.D x)) : Int) * (8 : Int)) = wr IntKind.u64 (wr IntKind.u64 (↑(List.length (DX.D x)) : Int) * (8 :
  Int)) ∧ wr IntKind.i64 (DX.j x_2 - (8 : Int)) = DX.j x' ∧ True) ∧ (List.take (List.length (DX.D x_2)) (DX.D x_2) ++ [wr IntKind.u8 (Int.fdiv (wr IntKind.u64 (wr IntKind.u64
  (↑(List.length (DX.D x)) : Int) * (8 : Int))) ((2 : Int) ^ min (Int.toNat (DX.j x_2)) (IntKind.bits IntKind.u64)))] = DX.D x' ∧ (0 : Nat) = (0 : Nat)) ∧ ((0 : Int) = (0 : Int) ∧ (0
  : Int) = (0 : Int) ∧ (0 : Int) = (0 : Int) ∧ (0 : Int) = (0 : Int) ∧ (0 : Int) = (0 : Int) ∧ (0 : Int) = (0 : Int) ∧ (0 : Int) = (0 : Int) ∧ (0 : Int) = (0 : Int) ∧ (0 : Int) = (0
  : Int) ∧ (0 : Int) = (0 : Int) ∧ (0 : Int) = (0 : Int) ∧ (0 : Int) = (0 : Int) ∧ (0 : Int) = (0 : Int) ∧ (0 : Int) = (0 : Int) ∧ (0 : Int) = (0 : Int) ∧ (0 : Int) = (0 : Int) ∧ (0
  : Int) = (0 : Int) ∧ (0 : Int) = (0 : Int) ∧ (0 : Int) = (0 : Int) ∧ (0 : Int) = (0 : Int) ∧ (0 : Int) = (0 : Int) ∧ (0 : Int) = (0 : Int) ∧ (0 : Int) = (0 : Int) ∧ (0 : Int) = (0
  : Int) ∧ (0 : Int) = (0 : Int) ∧ (0 : Int) = (0 : Int) ∧ (0 : Int) = (0 : Int) ∧ (0 : Int) = (0 : Int) ∧ (0 : Int) = (0 : Int) ∧ (0 : Int) = (0 : Int) ∧ (0 : Int) = (0 : Int) ∧ (0
  : Int) = (0 : Int) ∧ True) ∧ True) ∧ (decide (DX.j x_2 ≥ (0 : Int)) = false → ∃ (R : Bool → DX → Prop), ((∃ (x : DX), R true x ∧ true = true ∧ ((0 : Nat) = (0 : Nat) ∧ ((0 : Nat) =
  DX.n x ∧ List.length (DX.D x_2) = DX.m x ∧ True) ∧ (0 : Nat) = (0 : Nat) ∧ True) ∧ ((1779033703 : Int) = List.getD (DX.H x) (0 : Nat) (0 : Int) ∧ (3144134277 : Int) = List.getD
  (DX.H x) (1 : Nat) (0 : Int) ∧ (1013904242 : Int) = List.getD (DX.H x) (2 : Nat) (0 : Int) ∧ (2773480762 : Int) = List.getD (DX.H x) (3 : Nat) (0 : Int) ∧ (1359893119 : Int) =
  List.getD (DX.H x) (4 : Nat) (0 : Int) ∧ (2600822924 : Int) = List.getD (DX.H x) (5 : Nat) (0 : Int) ∧ (528734635 : Int) = List.getD (DX.H x) (6 : Nat) (0 : Int) ∧ (1541459225 :
  Int) = List.getD (DX.H x) (7 : Nat) (0 : Int) ∧ True) ∧ (DX.D x_2 = DX.D x_2 ∧ (0 : Nat) = DX.fz x) ∧ ((0 : Int) = (0 : Int) ∧ (0 : Int) = (0 : Int) ∧ (0 : Int) = (0 : Int) ∧ (0 :
  Int) = (0 : Int) ∧ (0 : Int) = (0 : Int) ∧ (0 : Int) = (0 : Int) ∧ (0 : Int) = (0 : Int) ∧ (0 : Int) = (0 : Int) ∧ (0 : Int) = (0 : Int) ∧ (0 : Int) = (0 : Int) ∧ (0 : Int) = (0 :
  Int) ∧ (0 : Int) = (0 : Int) ∧ (0 : Int) = (0 : Int) ∧ (0 : Int) = (0 : Int) ∧ (0 : Int) = (0 : Int) ∧ (0 : Int) = (0 : Int) ∧ (0 : Int) = (0 : Int) ∧ (0 : Int) = (0 : Int) ∧ (0 :
  Int) = (0 : Int) ∧ (0 : Int) = (0 : Int) ∧ (0 : Int) = (0 : Int) ∧ (0 : Int) = (0 : Int) ∧ (0 : Int) = (0 : Int) ∧ (0 : Int) = (0 : Int) ∧ (0 : Int) = (0 : Int) ∧ (0 : Int) = (0 :
  Int) ∧ (0 : Int) = (0 : Int) ∧ (0 : Int) = (0 : Int) ∧ (0 : Int) = (0 : Int) ∧ (0 : Int) = (0 : Int) ∧ (0 : Int) = (0 : Int) ∧ (0 : Int) = (0 : Int) ∧ True) ∧ True) ∨ ∃ (x : DX), R
  false x ∧ true = true ∧ ((0 : Nat) = (0 : Nat) ∧ False ∧ (0 : Nat) = (0 : Nat) ∧ True) ∧ ((1779033703 : Int) = List.getD (DX.H x) (0 : Nat) (0 : Int) ∧ (3144134277 : Int) =
  List.getD (DX.H x) (1 : Nat) (0 : Int) ∧ (1013904242 : Int) = List.getD (DX.H x) (2 : Nat) (0 : Int) ∧ (2773480762 : Int) = List.getD (DX.H x) (3 : Nat) (0 : Int) ∧ (1359893119 :
  Int) = List.getD (DX.H x) (4 : Nat) (0 : Int) ∧ (2600822924 : Int) = List.getD (DX.H x) (5 : Nat) (0 : Int) ∧ (528734635 : Int) = List.getD (DX.H x) (6 : Nat) (0 : Int) ∧
  (1541459225 : Int) = List.getD (DX.H x) (7 : Nat) (0 : Int) ∧ True) ∧ ((0 : Int) = (0 : Int) ∧ (0 : Int) = (0 : Int) ∧ (0 : Int) = (0 : Int) ∧ (0 : Int) = (0 : Int) ∧ (0 : Int) =
  (0 : Int) ∧ (0 : Int) = (0 : Int) ∧ (0 : Int) = (0 : Int) ∧ (0 : Int) = (0 : Int) ∧ (0 : Int) = (0 : Int) ∧ (0 : Int) = (0 : Int) ∧ (0 : Int) = (0 : Int) ∧ (0 : Int) = (0 : Int) ∧
  (0 : Int) = (0 : Int) ∧ (0 : Int) = (0 : Int) ∧ (0 : Int) = (0 : Int) ∧ (0 : Int) = (0 : Int) ∧ (0 : Int) = (0 : Int) ∧ (0 : Int) = (0 : Int) ∧ (0 : Int) = (0 : Int) ∧ (0 : Int) =
  (0 : Int) ∧ (0 : Int) = (0 : Int) ∧ (0 : Int) = (0 : Int) ∧ (0 : Int) = (0 : Int) ∧ (0 : Int) = (0 : Int) ∧ (0 : Int) = (0 : Int) ∧ (0 : Int) = (0 : Int) ∧ (0 : Int) = (0 : Int) ∧
  (0 : Int) = (0 : Int) ∧ (0 : Int) = (0 : Int) ∧ (0 : Int) = (0 : Int) ∧ (0 : Int) = (0 : Int) ∧ (0 : Int) = (0 : Int) ∧ True) ∧ True) ∧ (∀ (x : DX), R true x → (decide ((↑(DX.m x)
  : Int) > (0 : Int)) = true → ((0 : Int) ≤ (64 : Int) ∧ (64 : Int) ≤ (↑(DX.m x) : Int)) ∧ DX.n x + Int.toNat (64 : Int) ≤ List.length (DX.D x_2) ∧ ((8 : Nat) = (8 : Nat) ∧
  List.length (List.take (Int.toNat (64 : Int)) (List.drop (DX.n x) (DX.D x_2))) = (64 : Nat)) ∧ ((0 : Int) ≤ (64 : Int) ∧ (64 : Int) ≤ (↑(DX.m x) : Int)) ∧ (decide ((64 : Int) <
  (↑(DX.m x) : Int)) = true → (∃ (x' : DX), R true x' ∧ x'.2 + (1 : Nat) ≤ x.2 ∧ true = true ∧ ((0 : Nat) = (0 : Nat) ∧ (DX.n x + Int.toNat (64 : Int) = DX.n x' ∧ DX.m x - Int.toNat
  (64 : Int) = DX.m x' ∧ True) ∧ (0 : Nat) = (0 : Nat) ∧ True) ∧ (List.getD (blkF [List.getD (DX.H x) (0 : Nat) (0 : Int), List.getD (DX.H x) (1 : Nat) (0 : Int), List.getD (DX.H x)
  (2 : Nat) (0 : Int), List.getD (DX.H x) (3 : Nat) (0 : Int), List.getD (DX.H x) (4 : Nat) (0 : Int), List.getD (DX.H x) (5 : Nat) (0 : Int), List.getD (DX.H x) (6 : Nat) (0 : Int),
  List.getD (DX.H x) (7 : Nat) (0 : Int)] (List.take (Int.toNat (64 : Int)) (List.drop (DX.n x) (DX.D x_2)))) (0 : Nat) (0 : Int) = List.getD (DX.H x') (0 : Nat) (0 : Int) ∧
  List.getD (blkF [List.getD (DX.H x) (0 : Nat) (0 : Int), List.getD (DX.H x) (1 : Nat) (0 : Int), List.getD (DX.H x) (2 : Nat) (0 : Int), List.getD (DX.H x) (3 : Nat) (0 : Int),
  List.getD (DX.H x) (4 : Nat) (0 : Int), List.getD (DX.H x) (5 : Nat) (0 : Int), List.getD (DX.H x) (6 : Nat) (0 : Int), List.getD (DX.H x) (7 : Nat) (0 : Int)] (List.take
  (Int.toNat (64 : Int)) (List.drop (DX.n x) (DX.D x_2)))) (1 : Nat) (0 : Int) = List.getD (DX.H x') (1 : Nat) (0 : Int) ∧ List.getD (blkF [List.getD (DX.H x) (0 : Nat) (0 : Int),
  List.getD (DX.H x) (1 : Nat) (0 : Int), List.getD (DX.H x) (2 : Nat) (0 : Int), List.getD (DX.H x) (3 : Nat) (0 : Int), List.getD (DX.H x) (4 : Nat) (0 : Int), List.getD (DX.H x)
  (5 : Nat) (0 : Int), List.getD (DX.H x) (6 : Nat) (0 : Int), List.getD (DX.H x) (7 : Nat) (0 : Int)] (List.take (Int.toNat (64 : Int)) (List.drop (DX.n x) (DX.D x_2)))) (2 : Nat)
  (0 : Int) = List.getD (DX.H x') (2 : Nat) (0 : Int) ∧ List.getD (blkF [List.getD (DX.H x) (0 : Nat) (0 : Int), List.getD (DX.H x) (1 : Nat) (0 : Int), List.getD (DX.H x) (2 : Nat)
  (0 : Int), List.getD (DX.H x) (3 : Nat) (0 : Int), List.getD (DX.H x) (4 : Nat) (0 : Int), List.getD (DX.H x) (5 : Nat) (0 : Int), List.getD (DX.H x) (6 : Nat) (0 : Int), List.getD
  (DX.H x) (7 : Nat) (0 : Int)] (List.take (Int.toNat (64 : Int)) (List.drop (DX.n x) (DX.D x_2)))) (3 : Nat) (0 : Int) = List.getD (DX.H x') (3 : Nat) (0 : Int) ∧ List.getD (blkF
  [List.getD (DX.H x) (0 : Nat) (0 : Int), List.getD (DX.H x) (1 : Nat) (0 : Int), List.getD (DX.H x) (2 : Nat) (0 : Int), List.getD (DX.H x) (3 : Nat) (0 : Int), List.getD (DX.H x)
  (4 : Nat) (0 : Int), List.getD (DX.H x) (5 : Nat) (0 : Int), List.getD (DX.H x) (6 : Nat) (0 : Int), List.getD (DX.H x) (7 : Nat) (0 : Int)] (List.take (Int.toNat (64 : Int))
  (List.drop (DX.n x) (DX.D x_2)))) (4 : Nat) (0 : Int) = List.getD (DX.H x') (4 : Nat) (0 : Int) ∧ List.getD (blkF [List.getD (DX.H x) (0 : Nat) (0 : Int), List.getD (DX.H x) (1 :
  Nat) (0 : Int), List.getD (DX.H x) (2 : Nat) (0 : Int), List.getD (DX.H x) (3 : Nat) (0 : Int), List.getD (DX.H x) (4 : Nat) (0 : Int), List.getD (DX.H x) (5 : Nat) (0 : Int),
  List.getD (DX.H x) (6 : Nat) (0 : Int), List.getD (DX.H x) (7 : Nat) (0 : Int)] (List.take (Int.toNat (64 : Int)) (List.drop (DX.n x) (DX.D x_2)))) (5 : Nat) (0 : Int) = List.getD
  (DX.H x') (5 : Nat) (0 : Int) ∧ List.getD (blkF [List.getD (DX.H x) (0 : Nat) (0 : Int), List.getD (DX.H x) (1 : Nat) (0 : Int), List.getD (DX.H x) (2 : Nat) (0 : Int), List.getD
  (DX.H x) (3 : Nat) (0 : Int), List.getD (DX.H x) (4 : Nat) (0 : Int), List.getD (DX.H x) (5 : Nat) (0 : Int), List.getD (DX.H x) (6 : Nat) (0 : Int), List.getD (DX.H x) (7 : Nat)
  (0 : Int)] (List.take (Int.toNat (64 : Int)) (List.drop (DX.n x) (DX.D x_2)))) (6 : Nat) (0 : Int) = List.getD (DX.H x') (6 : Nat) (0 : Int) ∧ List.getD (blkF [List.getD (DX.H x)
  (0 : Nat) (0 : Int), List.getD (DX.H x) (1 : Nat) (0 : Int), List.getD (DX.H x) (2 : Nat) (0 : Int), List.getD (DX.H x) (3 : Nat) (0 : Int), List.getD (DX.H x) (4 : Nat) (0 : Int),
  List.getD (DX.H x) (5 : Nat) (0 : Int), List.getD (DX.H x) (6 : Nat) (0 : Int), List.getD (DX.H x) (7 : Nat) (0 : Int)] (List.take (Int.toNat (64 : Int)) (List.drop (DX.n x) (DX.D
  x_2)))) (7 : Nat) (0 : Int) = List.getD (DX.H x') (7 : Nat) (0 : Int) ∧ True) ∧ (DX.D x_2 = DX.D x_2 ∧ mx2 (DX.fz x) (List.length (DX.D x_2)) = DX.fz x') ∧ ((0 : Int) = (0 : Int) ∧
  (0 : Int) = (0 : Int) ∧ (0 : Int) = (0 : Int) ∧ (0 : Int) = (0 : Int) ∧ (0 : Int) = (0 : Int) ∧ (0 : Int) = (0 : Int) ∧ (0 : Int) = (0 : Int) ∧ (0 : Int) = (0 : Int) ∧ (0 : Int) =
  (0 : Int) ∧ (0 : Int) = (0 : Int) ∧ (0 : Int) = (0 : Int) ∧ (0 : Int) = (0 : Int) ∧ (0 : Int) = (0 : Int) ∧ (0 : Int) = (0 : Int) ∧ (0 : Int) = (0 : Int) ∧ (0 : Int) = (0 : Int) ∧
  (0 : Int) = (0 : Int) ∧ (0 : Int) = (0 : Int) ∧ (0 : Int) = (0 : Int) ∧ (0 : Int) = (0 : Int) ∧ (0 : Int) = (0 : Int) ∧ (0 : Int) = (0 : Int) ∧ (0 : Int) = (0 : Int) ∧ (0 : Int) =
  (0 : Int) ∧ (0 : Int) = (0 : Int) ∧ (0 : Int) = (0 : Int) ∧ (0 : Int) = (0 : Int) ∧ (0 : Int) = (0 : Int) ∧ (0 : Int) = (0 : Int) ∧ (0 : Int) = (0 : Int) ∧ (0 : Int) = (0 : Int) ∧
  (0 : Int) = (0 : Int) ∧ True) ∧ True) ∨ ∃ (x' : DX), R false x' ∧ x'.2 + (1 : Nat) ≤ x.2 ∧ true = true ∧ ((0 : Nat) = (0 : Nat) ∧ False ∧ (0 : Nat) = (0 : Nat) ∧ True) ∧ (List.getD
  (blkF [List.getD (DX.H x) (0 : Nat) (0 : Int), List.getD (DX.H x) (1 : Nat) (0 : Int), List.getD (DX.H x) (2 : Nat) (0 : Int), List.getD (DX.H x) (3 : Nat) (0 : Int), List.getD
  (DX.H x) (4 : Nat) (0 : Int), List.getD (DX.H x) (5 : Nat) (0 : Int), List.getD (DX.H x) (6 : Nat) (0 : Int), List.getD (DX.H x) (7 : Nat) (0 : Int)] (List.take (Int.toNat (64 :
  Int)) (List.drop (DX.n x) (DX.D x_2)))) (0 : Nat) (0 : Int) = List.getD (DX.H x') (0 : Nat) (0 : Int) ∧ List.getD (blkF [List.getD (DX.H x) (0 : Nat) (0 : Int), List.getD (DX.H x)
  (1 : Nat) (0 : Int), List.getD (DX.H x) (2 : Nat) (0 : Int), List.getD (DX.H x) (3 : Nat) (0 : Int), List.getD (DX.H x) (4 : Nat) (0 : Int), List.getD (DX.H x) (5 : Nat) (0 : Int),
  List.getD (DX.H x) (6 : Nat) (0 : Int), List.getD (DX.H x) (7 : Nat) (0 : Int)] (List.take (Int.toNat (64 : Int)) (List.drop (DX.n x) (DX.D x_2)))) (1 : Nat) (0 : Int) = List.getD
  (DX.H x') (1 : Nat) (0 : Int) ∧ List.getD (blkF [List.getD (DX.H x) (0 : Nat) (0 : Int), List.getD (DX.H x) (1 : Nat) (0 : Int), List.getD (DX.H x) (2 : Nat) (0 : Int), List.getD
  (DX.H x) (3 : Nat) (0 : Int), List.getD (DX.H x) (4 : Nat) (0 : Int), List.getD (DX.H x) (5 : Nat) (0 : Int), List.getD (DX.H x) (6 : Nat) (0 : Int), List.getD (DX.H x) (7 : Nat)
  (0 : Int)] (List.take (Int.toNat (64 : Int)) (List.drop (DX.n x) (DX.D x_2)))) (2 : Nat) (0 : Int) = List.getD (DX.H x') (2 : Nat) (0 : Int) ∧ List.getD (blkF [List.getD (DX.H x)
  (0 : Nat) (0 : Int), List.getD (DX.H x) (1 : Nat) (0 : Int), List.getD (DX.H x) (2 : Nat) (0 : Int), List.getD (DX.H x) (3 : Nat) (0 : Int), List.getD (DX.H x) (4 : Nat) (0 : Int),
  List.getD (DX.H x) (5 : Nat) (0 : Int), List.getD (DX.H x) (6 : Nat) (0 : Int), List.getD (DX.H x) (7 : Nat) (0 : Int)] (List.take (Int.toNat (64 : Int)) (List.drop (DX.n x) (DX.D
  x_2)))) (3 : Nat) (0 : Int) = List.getD (DX.H x') (3 : Nat) (0 : Int) ∧ List.getD (blkF [List.getD (DX.H x) (0 : Nat) (0 : Int), List.getD (DX.H x) (1 : Nat) (0 : Int), List.getD
  (DX.H x) (2 : Nat) (0 : Int), List.getD (DX.H x) (3 : Nat) (0 : Int), List.getD (DX.H x) (4 : Nat) (0 : Int), List.getD (DX.H x) (5 : Nat) (0 : Int), List.getD (DX.H x) (6 : Nat)
  (0 : Int), List.getD (DX.H x) (7 : Nat) (0 : Int)] (List.take (Int.toNat (64 : Int)) (List.drop (DX.n x) (DX.D x_2)))) (4 : Nat) (0 : Int) = List.getD (DX.H x') (4 : Nat) (0 : Int)
  ∧ List.getD (blkF [List.getD (DX.H x) (0 : Nat) (0 : Int), List.getD (DX.H x) (1 : Nat) (0 : Int), List.getD (DX.H x) (2 : Nat) (0 : Int), List.getD (DX.H x) (3 : Nat) (0 : Int),
  List.getD (DX.H x) (4 : Nat) (0 : Int), List.getD (DX.H x) (5 : Nat) (0 : Int), List.getD (DX.H x) (6 : Nat) (0 : Int), List.getD (DX.H x) (7 : Nat) (0 : Int)] (List.take
  (Int.toNat (64 : Int)) (List.drop (DX.n x) (DX.D x_2)))) (5 : Nat) (0 : Int) = List.getD (DX.H x') (5 : Nat) (0 : Int) ∧ List.getD (blkF [List.getD (DX.H x) (0 : Nat) (0 : Int),
  List.getD (DX.H x) (1 : Nat) (0 : Int), List.getD (DX.H x) (2 : Nat) (0 : Int), List.getD (DX.H x) (3 : Nat) (0 : Int), List.getD (DX.H x) (4 : Nat) (0 : Int), List.getD (DX.H x)
  (5 : Nat) (0 : Int), List.getD (DX.H x) (6 : Nat) (0 : Int), List.getD (DX.H x) (7 : Nat) (0 : Int)] (List.take (Int.toNat (64 : Int)) (List.drop (DX.n x) (DX.D x_2)))) (6 : Nat)
  (0 : Int) = List.getD (DX.H x') (6 : Nat) (0 : Int) ∧ List.getD (blkF [List.getD (DX.H x) (0 : Nat) (0 : Int), List.getD (DX.H x) (1 : Nat) (0 : Int), List.getD (DX.H x) (2 : Nat)
  (0 : Int), List.getD (DX.H x) (3 : Nat) (0 : Int), List.getD (DX.H x) (4 : Nat) (0 : Int), List.getD (DX.H x) (5 : Nat) (0 : Int), List.getD (DX.H x) (6 : Nat) (0 : Int), List.getD
  (DX.H x) (7 : Nat) (0 : Int)] (List.take (Int.toNat (64 : Int)) (List.drop (DX.n x) (DX.D x_2)))) (7 : Nat) (0 : Int) = List.getD (DX.H x') (7 : Nat) (0 : Int) ∧ True) ∧ ((0 : Int)
  = (0 : Int) ∧ (0 : Int) = (0 : Int) ∧ (0 : Int) = (0 : Int) ∧ (0 : Int) = (0 : Int) ∧ (0 : Int) = (0 : Int) ∧ (0 : Int) = (0 : Int) ∧ (0 : Int) = (0 : Int) ∧ (0 : Int) = (0 : Int)
  ∧ (0 : Int) = (0 : Int) ∧ (0 : Int) = (0 : Int) ∧ (0 : Int) = (0 : Int) ∧ (0 : Int) = (0 : Int) ∧ (0 : Int) = (0 : Int) ∧ (0 : Int) = (0 : Int) ∧ (0 : Int) = (0 : Int) ∧ (0 : Int)
  = (0 : Int) ∧ (0 : Int) = (0 : Int) ∧ (0 : Int) = (0 : Int) ∧ (0 : Int) = (0 : Int) ∧ (0 : Int) = (0 : Int) ∧ (0 : Int) = (0 : Int) ∧ (0 : Int) = (0 : Int) ∧ (0 : Int) = (0 : Int)
  ∧ (0 : Int) = (0 : Int) ∧ (0 : Int) = (0 : Int) ∧ (0 : Int) = (0 : Int) ∧ (0 : Int) = (0 : Int) ∧ (0 : Int) = (0 : Int) ∧ (0 : Int) = (0 : Int) ∧ (0 : Int) = (0 : Int) ∧ (0 : Int)
  = (0 : Int) ∧ (0 : Int) = (0 : Int) ∧ True) ∧ True) ∧ (decide ((64 : Int) < (↑(DX.m x) : Int)) = false → (∃ (x' : DX), R true x' ∧ x'.2 + (1 : Nat) ≤ x.2 ∧ true = true ∧ ((0 : Nat)
  = (0 : Nat) ∧ False ∧ (0 : Nat) = (0 : Nat) ∧ True) ∧ (List.getD (blkF [List.getD (DX.H x) (0 : Nat) (0 : Int), List.getD (DX.H x) (1 : Nat) (0 : Int), List.getD (DX.H x) (2 : Nat)
  (0 : Int), List.getD (DX.H x) (3 : Nat) (0 : Int), List.getD (DX.H x) (4 : Nat) (0 : Int), List.getD (DX.H x) (5 : Nat) (0 : Int), List.getD (DX.H x) (6 : Nat) (0 : Int), List.getD
  (DX.H x) (7 : Nat) (0 : Int)] (List.take (Int.toNat (64 : Int)) (List.drop (DX.n x) (DX.D x_2)))) (0 : Nat) (0 : Int) = List.getD (DX.H x') (0 : Nat) (0 : Int) ∧ List.getD (blkF
  [List.getD (DX.H x) (0 : Nat) (0 : Int), List.getD (DX.H x) (1 : Nat) (0 : Int), List.getD (DX.H x) (2 : Nat) (0 : Int), List.getD (DX.H x) (3 : Nat) (0 : Int), List.getD (DX.H x)
  (4 : Nat) (0 : Int), List.getD (DX.H x) (5 : Nat) (0 : Int), List.getD (DX.H x) (6 : Nat) (0 : Int), List.getD (DX.H x) (7 : Nat) (0 : Int)] (List.take (Int.toNat (64 : Int))
  (List.drop (DX.n x) (DX.D x_2)))) (1 : Nat) (0 : Int) = List.getD (DX.H x') (1 : Nat) (0 : Int) ∧ List.getD (blkF [List.getD (DX.H x) (0 : Nat) (0 : Int), List.getD (DX.H x) (1 :
  Nat) (0 : Int), List.getD (DX.H x) (2 : Nat) (0 : Int), List.getD (DX.H x) (3 : Nat) (0 : Int), List.getD (DX.H x) (4 : Nat) (0 : Int), List.getD (DX.H x) (5 : Nat) (0 : Int),
  List.getD (DX.H x) (6 : Nat) (0 : Int), List.getD (DX.H x) (7 : Nat) (0 : Int)] (List.take (Int.toNat (64 : Int)) (List.drop (DX.n x) (DX.D x_2)))) (2 : Nat) (0 : Int) = List.getD
  (DX.H x') (2 : Nat) (0 : Int) ∧ List.getD (blkF [List.getD (DX.H x) (0 : Nat) (0 : Int), List.getD (DX.H x) (1 : Nat) (0 : Int), List.getD (DX.H x) (2 : Nat) (0 : Int), List.getD
  (DX.H x) (3 : Nat) (0 : Int), List.getD (DX.H x) (4 : Nat) (0 : Int), List.getD (DX.H x) (5 : Nat) (0 : Int), List.getD (DX.H x) (6 : Nat) (0 : Int), List.getD (DX.H x) (7 : Nat)
  (0 : Int)] (List.take (Int.toNat (64 : Int)) (List.drop (DX.n x) (DX.D x_2)))) (3 : Nat) (0 : Int) = List.getD (DX.H x') (3 : Nat) (0 : Int) ∧ List.getD (blkF [List.getD (DX.H x)
  (0 : Nat) (0 : Int), List.getD (DX.H x) (1 : Nat) (0 : Int), List.getD (DX.H x) (2 : Nat) (0 : Int), List.getD (DX.H x) (3 : Nat) (0 : Int), List.getD (DX.H x) (4 : Nat) (0 : Int),
  List.getD (DX.H x) (5 : Nat) (0 : Int), List.getD (DX.H x) (6 : Nat) (0 : Int), List.getD (DX.H x) (7 : Nat) (0 : Int)] (List.take (Int.toNat (64 : Int)) (List.drop (DX.n x) (DX.D
  x_2)))) (4 : Nat) (0 : Int) = List.getD (DX.H x') (4 : Nat) (0 : Int) ∧ List.getD (blkF [List.getD (DX.H x) (0 : Nat) (0 : Int), List.getD (DX.H x) (1 : Nat) (0 : Int), List.getD
  (DX.H x) (2 : Nat) (0 : Int), List.getD (DX.H x) (3 : Nat) (0 : Int), List.getD (DX.H x) (4 : Nat) (0 : Int), List.getD (DX.H x) (5 : Nat) (0 : Int), List.getD (DX.H x) (6 : Nat)
  (0 : Int), List.getD (DX.H x) (7 : Nat) (0 : Int)] (List.take (Int.toNat (64 : Int)) (List.drop (DX.n x) (DX.D x_2)))) (5 : Nat) (0 : Int) = List.getD (DX.H x') (5 : Nat) (0 : Int)
  ∧ List.getD (blkF [List.getD (DX.H x) (0 : Nat) (0 : Int), List.getD (DX.H x) (1 : Nat) (0 : Int), List.getD (DX.H x) (2 : Nat) (0 : Int), List.getD (DX.H x) (3 : Nat) (0 : Int),
  List.getD (DX.H x) (4 : Nat) (0 : Int), List.getD (DX.H x) (5 : Nat) (0 : Int), List.getD (DX.H x) (6 : Nat) (0 : Int), List.getD (DX.H x) (7 : Nat) (0 : Int)] (List.take
  (Int.toNat (64 : Int)) (List.drop (DX.n x) (DX.D x_2)))) (6 : Nat) (0 : Int) = List.getD (DX.H x') (6 : Nat) (0 : Int) ∧ List.getD (blkF [List.getD (DX.H x) (0 : Nat) (0 : Int),
  List.getD (DX.H x) (1 : Nat) (0 : Int), List.getD (DX.H x) (2 : Nat) (0 : Int), List.getD (DX.H x) (3 : Nat) (0 : Int), List.getD (DX.H x) (4 : Nat) (0 : Int), List.getD (DX.H x)
  (5 : Nat) (0 : Int), List.getD (DX.H x) (6 : Nat) (0 : Int), List.getD (DX.H x) (7 : Nat) (0 : Int)] (List.take (Int.toNat (64 : Int)) (List.drop (DX.n x) (DX.D x_2)))) (7 : Nat)
  (0 : Int) = List.getD (DX.H x') (7 : Nat) (0 : Int) ∧ True) ∧ (DX.D x_2 = DX.D x_2 ∧ mx2 (DX.fz x) (List.length (DX.D x_2)) = DX.fz x') ∧ ((0 : Int) = (0 : Int) ∧ (0 : Int) = (0 :
  Int) ∧ (0 : Int) = (0 : Int) ∧ (0 : Int) = (0 : Int) ∧ (0 : Int) = (0 : Int) ∧ (0 : Int) = (0 : Int) ∧ (0 : Int) = (0 : Int) ∧ (0 : Int) = (0 : Int) ∧ (0 : Int) = (0 : Int) ∧ (0 :
  Int) = (0 : Int) ∧ (0 : Int) = (0 : Int) ∧ (0 : Int) = (0 : Int) ∧ (0 : Int) = (0 : Int) ∧ (0 : Int) = (0 : Int) ∧ (0 : Int) = (0 : Int) ∧ (0 : Int) = (0 : Int) ∧ (0 : Int) = (0 :
  Int) ∧ (0 : Int) = (0 : Int) ∧ (0 : Int) = (0 : Int) ∧ (0 : Int) = (0 : Int) ∧ (0 : Int) = (0 : Int) ∧ (0 : Int) = (0 : Int) ∧ (0 : Int) = (0 : Int) ∧ (0 : Int) = (0 : Int) ∧ (0 :
  Int) = (0 : Int) ∧ (0 : Int) = (0 : Int) ∧ (0 : Int) = (0 : Int) ∧ (0 : Int) = (0 : Int) ∧ (0 : Int) = (0 : Int) ∧ (0 : Int) = (0 : Int) ∧ (0 : Int) = (0 : Int) ∧ (0 : Int) = (0 :
  Int) ∧ True) ∧ True) ∨ ∃ (x' : DX), R false x' ∧ x'.2 + (1 : Nat) ≤ x.2 ∧ true = true ∧ ((0 : Nat) = (0 : Nat) ∧ (([] : List Int) = ([] : List Int) ∧ (false = true → false = true))
  ∧ (0 : Nat) = (0 : Nat) ∧ True) ∧ (List.getD (blkF [List.getD (DX.H x) (0 : Nat) (0 : Int), List.getD (DX.H x) (1 : Nat) (0 : Int), List.getD (DX.H x) (2 : Nat) (0 : Int),
  List.getD (DX.H x) (3 : Nat) (0 : Int), List.getD (DX.H x) (4 : Nat) (0 : Int), List.getD (DX.H x) (5 : Nat) (0 : Int), List.getD (DX.H x) (6 : Nat) (0 : Int), List.getD (DX.H x)
  (7 : Nat) (0 : Int)] (List.take (Int.toNat (64 : Int)) (List.drop (DX.n x) (DX.D x_2)))) (0 : Nat) (0 : Int) = List.getD (DX.H x') (0 : Nat) (0 : Int) ∧ List.getD (blkF [List.getD
  (DX.H x) (0 : Nat) (0 : Int), List.getD (DX.H x) (1 : Nat) (0 : Int), List.getD (DX.H x) (2 : Nat) (0 : Int), List.getD (DX.H x) (3 : Nat) (0 : Int), List.getD (DX.H x) (4 : Nat)
  (0 : Int), List.getD (DX.H x) (5 : Nat) (0 : Int), List.getD (DX.H x) (6 : Nat) (0 : Int), List.getD (DX.H x) (7 : Nat) (0 : Int)] (List.take (Int.toNat (64 : Int)) (List.drop
  (DX.n x) (DX.D x_2)))) (1 : Nat) (0 : Int) = List.getD (DX.H x') (1 : Nat) (0 : Int) ∧ List.getD (blkF [List.getD (DX.H x) (0 : Nat) (0 : Int), List.getD (DX.H x) (1 : Nat) (0 :
  Int), List.getD (DX.H x) (2 : Nat) (0 : Int), List.getD (DX.H x) (3 : Nat) (0 : Int), List.getD (DX.H x) (4 : Nat) (0 : Int), List.getD (DX.H x) (5 : Nat) (0 : Int), List.getD
  (DX.H x) (6 : Nat) (0 : Int), List.getD (DX.H x) (7 : Nat) (0 : Int)] (List.take (Int.toNat (64 : Int)) (List.drop (DX.n x) (DX.D x_2)))) (2 : Nat) (0 : Int) = List.getD (DX.H x')
  (2 : Nat) (0 : Int) ∧ List.getD (blkF [List.getD (DX.H x) (0 : Nat) (0 : Int), List.getD (DX.H x) (1 : Nat) (0 : Int), List.getD (DX.H x) (2 : Nat) (0 : Int), List.getD (DX.H x) (3
  : Nat) (0 : Int), List.getD (DX.H x) (4 : Nat) (0 : Int), List.getD (DX.H x) (5 : Nat) (0 : Int), List.getD (DX.H x) (6 : Nat) (0 : Int), List.getD (DX.H x) (7 : Nat) (0 : Int)]
  (List.take (Int.toNat (64 : Int)) (List.drop (DX.n x) (DX.D x_2)))) (3 : Nat) (0 : Int) = List.getD (DX.H x') (3 : Nat) (0 : Int) ∧ List.getD (blkF [List.getD (DX.H x) (0 : Nat) (0
  : Int), List.getD (DX.H x) (1 : Nat) (0 : Int), List.getD (DX.H x) (2 : Nat) (0 : Int), List.getD (DX.H x) (3 : Nat) (0 : Int), List.getD (DX.H x) (4 : Nat) (0 : Int), List.getD
  (DX.H x) (5 : Nat) (0 : Int), List.getD (DX.H x) (6 : Nat) (0 : Int), List.getD (DX.H x) (7 : Nat) (0 : Int)] (List.take (Int.toNat (64 : Int)) (List.drop (DX.n x) (DX.D x_2)))) (4
  : Nat) (0 : Int) = List.getD (DX.H x') (4 : Nat) (0 : Int) ∧ List.getD (blkF [List.getD (DX.H x) (0 : Nat) (0 : Int), List.getD (DX.H x) (1 : Nat) (0 : Int), List.getD (DX.H x) (2
  : Nat) (0 : Int), List.getD (DX.H x) (3 : Nat) (0 : Int), List.getD (DX.H x) (4 : Nat) (0 : Int), List.getD (DX.H x) (5 : Nat) (0 : Int), List.getD (DX.H x) (6 : Nat) (0 : Int),
  List.getD (DX.H x) (7 : Nat) (0 : Int)] (List.take (Int.toNat (64 : Int)) (List.drop (DX.n x) (DX.D x_2)))) (5 : Nat) (0 : Int) = List.getD (DX.H x') (5 : Nat) (0 : Int) ∧
  List.getD (blkF [List.getD (DX.H x) (0 : Nat) (0 : Int), List.getD (DX.H x) (1 : Nat) (0 : Int), List.getD (DX.H x) (2 : Nat) (0 : Int), List.getD (DX.H x) (3 : Nat) (0 : Int),
  List.getD (DX.H x) (4 : Nat) (0 : Int), List.getD (DX.H x) (5 : Nat) (0 : Int), List.getD (DX.H x) (6 : Nat) (0 : Int), List.getD (DX.H x) (7 : Nat) (0 : Int)] (List.take
  (Int.toNat (64 : Int)) (List.drop (DX.n x) (DX.D x_2)))) (6 : Nat) (0 : Int) = List.getD (DX.H x') (6 : Nat) (0 : Int) ∧ List.getD (blkF [List.getD (DX.H x) (0 : Nat) (0 : Int),
  List.getD (DX.H x) (1 : Nat) (0 : Int), List.getD (DX.H x) (2 : Nat) (0 : Int), List.getD (DX.H x) (3 : Nat) (0 : Int), List.getD (DX.H x) (4 : Nat) (0 : Int), List.getD (DX.H x)
  (5 : Nat) (0 : Int), List.getD (DX.H x) (6 : Nat) (0 : Int), List.getD (DX.H x) (7 : Nat) (0 : Int)] (List.take (Int.toNat (64 : Int)) (List.drop (DX.n x) (DX.D x_2)))) (7 : Nat)
  (0 : Int) = List.getD (DX.H x') (7 : Nat) (0 : Int) ∧ True) ∧ ((0 : Int) = (0 : Int) ∧ (0 : Int) = (0 : Int) ∧ (0 : Int) = (0 : Int) ∧ (0 : Int) = (0 : Int) ∧ (0 : Int) = (0 : Int)
  ∧ (0 : Int) = (0 : Int) ∧ (0 : Int) = (0 : Int) ∧ (0 : Int) = (0 : Int) ∧ (0 : Int) = (0 : Int) ∧ (0 : Int) = (0 : Int) ∧ (0 : Int) = (0 : Int) ∧ (0 : Int) = (0 : Int) ∧ (0 : Int)
  = (0 : Int) ∧ (0 : Int) = (0 : Int) ∧ (0 : Int) = (0 : Int) ∧ (0 : Int) = (0 : Int) ∧ (0 : Int) = (0 : Int) ∧ (0 : Int) = (0 : Int) ∧ (0 : Int) = (0 : Int) ∧ (0 : Int) = (0 : Int)
  ∧ (0 : Int) = (0 : Int) ∧ (0 : Int) = (0 : Int) ∧ (0 : Int) = (0 : Int) ∧ (0 : Int) = (0 : Int) ∧ (0 : Int) = (0 : Int) ∧ (0 : Int) = (0 : Int) ∧ (0 : Int) = (0 : Int) ∧ (0 : Int)
  = (0 : Int) ∧ (0 : Int) = (0 : Int) ∧ (0 : Int) = (0 : Int) ∧ (0 : Int) = (0 : Int) ∧ (0 : Int) = (0 : Int) ∧ True) ∧ True)) ∧ (decide ((↑(DX.m x) : Int) > (0 : Int)) = false → wr
  IntKind.u8 (Int.fdiv (List.getD (DX.H x) (0 : Nat) (0 : Int)) ((2 : Int) ^ min (Int.toNat (24 : Int)) (IntKind.bits IntKind.u32))) = List.getD d (0 : Nat) (0 : Int) ∧ wr IntKind.u8
  (Int.fdiv (List.getD (DX.H x) (0 : Nat) (0 : Int)) ((2 : Int) ^ min (Int.toNat (16 : Int)) (IntKind.bits IntKind.u32))) = List.getD d (1 : Nat) (0 : Int) ∧ wr IntKind.u8 (Int.fdiv
  (List.getD (DX.H x) (0 : Nat) (0 : Int)) ((2 : Int) ^ min (Int.toNat (8 : Int)) (IntKind.bits IntKind.u32))) = List.getD d (2 : Nat) (0 : Int) ∧ wr IntKind.u8 (Int.fdiv (List.getD
  (DX.H x) (0 : Nat) (0 : Int)) ((2 : Int) ^ min (Int.toNat (0 : Int)) (IntKind.bits IntKind.u32))) = List.getD d (3 : Nat) (0 : Int) ∧ wr IntKind.u8 (Int.fdiv (List.getD (DX.H x) (1
  : Nat) (0 : Int)) ((2 : Int) ^ min (Int.toNat (24 : Int)) (IntKind.bits IntKind.u32))) = List.getD d (4 : Nat) (0 : Int) ∧ wr IntKind.u8 (Int.fdiv (List.getD (DX.H x) (1 : Nat) (0
  : Int)) ((2 : Int) ^ min (Int.toNat (16 : Int)) (IntKind.bits IntKind.u32))) = List.getD d (5 : Nat) (0 : Int) ∧ wr IntKind.u8 (Int.fdiv (List.getD (DX.H x) (1 : Nat) (0 : Int))
  ((2 : Int) ^ min (Int.toNat (8 : Int)) (IntKind.bits IntKind.u32))) = List.getD d (6 : Nat) (0 : Int) ∧ wr IntKind.u8 (Int.fdiv (List.getD (DX.H x) (1 : Nat) (0 : Int)) ((2 : Int)
  ^ min (Int.toNat (0 : Int)) (IntKind.bits IntKind.u32))) = List.getD d (7 : Nat) (0 : Int) ∧ wr IntKind.u8 (Int.fdiv (List.getD (DX.H x) (2 : Nat) (0 : Int)) ((2 : Int) ^ min
  (Int.toNat (24 : Int)) (IntKind.bits IntKind.u32))) = List.getD d (8 : Nat) (0 : Int) ∧ wr IntKind.u8 (Int.fdiv (List.getD (DX.H x) (2 : Nat) (0 : Int)) ((2 : Int) ^ min (Int.toNat
  (16 : Int)) (IntKind.bits IntKind.u32))) = List.getD d (9 : Nat) (0 : Int) ∧ wr IntKind.u8 (Int.fdiv (List.getD (DX.H x) (2 : Nat) (0 : Int)) ((2 : Int) ^ min (Int.toNat (8 : Int))
  (IntKind.bits IntKind.u32))) = List.getD d (10 : Nat) (0 : Int) ∧ wr IntKind.u8 (Int.fdiv (List.getD (DX.H x) (2 : Nat) (0 : Int)) ((2 : Int) ^ min (Int.toNat (0 : Int))
  (IntKind.bits IntKind.u32))) = List.getD d (11 : Nat) (0 : Int) ∧ wr IntKind.u8 (Int.fdiv (List.getD (DX.H x) (3 : Nat) (0 : Int)) ((2 : Int) ^ min (Int.toNat (24 : Int))
  (IntKind.bits IntKind.u32))) = List.getD d (12 : Nat) (0 : Int) ∧ wr IntKind.u8 (Int.fdiv (List.getD (DX.H x) (3 : Nat) (0 : Int)) ((2 : Int) ^ min (Int.toNat (16 : Int))
  (IntKind.bits IntKind.u32))) = List.getD d (13 : Nat) (0 : Int) ∧ wr IntKind.u8 (Int.fdiv (List.getD (DX.H x) (3 : Nat) (0 : Int)) ((2 : Int) ^ min (Int.toNat (8 : Int))
  (IntKind.bits IntKind.u32))) = List.getD d (14 : Nat) (0 : Int) ∧ wr IntKind.u8 (Int.fdiv (List.getD (DX.H x) (3 : Nat) (0 : Int)) ((2 : Int) ^ min (Int.toNat (0 : Int))
  (IntKind.bits IntKind.u32))) = List.getD d (15 : Nat) (0 : Int) ∧ wr IntKind.u8 (Int.fdiv (List.getD (DX.H x) (4 : Nat) (0 : Int)) ((2 : Int) ^ min (Int.toNat (24 : Int))
  (IntKind.bits IntKind.u32))) = List.getD d (16 : Nat) (0 : Int) ∧ wr IntKind.u8 (Int.fdiv (List.getD (DX.H x) (4 : Nat) (0 : Int)) ((2 : Int) ^ min (Int.toNat (16 : Int))
  (IntKind.bits IntKind.u32))) = List.getD d (17 : Nat) (0 : Int) ∧ wr IntKind.u8 (Int.fdiv (List.getD (DX.H x) (4 : Nat) (0 : Int)) ((2 : Int) ^ min (Int.toNat (8 : Int))
  (IntKind.bits IntKind.u32))) = List.getD d (18 : Nat) (0 : Int) ∧ wr IntKind.u8 (Int.fdiv (List.getD (DX.H x) (4 : Nat) (0 : Int)) ((2 : Int) ^ min (Int.toNat (0 : Int))
  (IntKind.bits IntKind.u32))) = List.getD d (19 : Nat) (0 : Int) ∧ wr IntKind.u8 (Int.fdiv (List.getD (DX.H x) (5 : Nat) (0 : Int)) ((2 : Int) ^ min (Int.toNat (24 : Int))
  (IntKind.bits IntKind.u32))) = List.getD d (20 : Nat) (0 : Int) ∧ wr IntKind.u8 (Int.fdiv (List.getD (DX.H x) (5 : Nat) (0 : Int)) ((2 : Int) ^ min (Int.toNat (16 : Int))
  (IntKind.bits IntKind.u32))) = List.getD d (21 : Nat) (0 : Int) ∧ wr IntKind.u8 (Int.fdiv (List.getD (DX.H x) (5 : Nat) (0 : Int)) ((2 : Int) ^ min (Int.toNat (8 : Int))
  (IntKind.bits IntKind.u32))) = List.getD d (22 : Nat) (0 : Int) ∧ wr IntKind.u8 (Int.fdiv (List.getD (DX.H x) (5 : Nat) (0 : Int)) ((2 : Int) ^ min (Int.toNat (0 : Int))
  (IntKind.bits IntKind.u32))) = List.getD d (23 : Nat) (0 : Int) ∧ wr IntKind.u8 (Int.fdiv (List.getD (DX.H x) (6 : Nat) (0 : Int)) ((2 : Int) ^ min (Int.toNat (24 : Int))
  (IntKind.bits IntKind.u32))) = List.getD d (24 : Nat) (0 : Int) ∧ wr IntKind.u8 (Int.fdiv (List.getD (DX.H x) (6 : Nat) (0 : Int)) ((2 : Int) ^ min (Int.toNat (16 : Int))
  (IntKind.bits IntKind.u32))) = List.getD d (25 : Nat) (0 : Int) ∧ wr IntKind.u8 (Int.fdiv (List.getD (DX.H x) (6 : Nat) (0 : Int)) ((2 : Int) ^ min (Int.toNat (8 : Int))
  (IntKind.bits IntKind.u32))) = List.getD d (26 : Nat) (0 : Int) ∧ wr IntKind.u8 (Int.fdiv (List.getD (DX.H x) (6 : Nat) (0 : Int)) ((2 : Int) ^ min (Int.toNat (0 : Int))
  (IntKind.bits IntKind.u32))) = List.getD d (27 : Nat) (0 : Int) ∧ wr IntKind.u8 (Int.fdiv (List.getD (DX.H x) (7 : Nat) (0 : Int)) ((2 : Int) ^ min (Int.toNat (24 : Int))
  (IntKind.bits IntKind.u32))) = List.getD d (28 : Nat) (0 : Int) ∧ wr IntKind.u8 (Int.fdiv (List.getD (DX.H x) (7 : Nat) (0 : Int)) ((2 : Int) ^ min (Int.toNat (16 : Int))
  (IntKind.bits IntKind.u32))) = List.getD d (29 : Nat) (0 : Int) ∧ wr IntKind.u8 (Int.fdiv (List.getD (DX.H x) (7 : Nat) (0 : Int)) ((2 : Int) ^ min (Int.toNat (8 : Int))
  (IntKind.bits IntKind.u32))) = List.getD d (30 : Nat) (0 : Int) ∧ wr IntKind.u8 (Int.fdiv (List.getD (DX.H x) (7 : Nat) (0 : Int)) ((2 : Int) ^ min (Int.toNat (0 : Int))
  (IntKind.bits IntKind.u32))) = List.getD d (31 : Nat) (0 : Int) ∧ True)) ∧ ∀ (x : DX), R false x → (decide ((↑(0 : Nat) : Int) > (0 : Int)) = true → ((0 : Int) ≤ (64 : Int) ∧ (64 :
  Int) ≤ (↑(0 : Nat) : Int)) ∧ ((8 : Nat) = (8 : Nat) ∧ List.length (List.take (Int.toNat (64 : Int)) ([] : List Int)) = (64 : Nat)) ∧ ((0 : Int) ≤ (64 : Int) ∧ (64 : Int) ≤ (↑(0 :
  Nat) : Int)) ∧ ((∃ (x' : DX), R true x' ∧ x'.2 + (1 : Nat) ≤ x.2 ∧ true = true ∧ ((0 : Nat) = (0 : Nat) ∧ False ∧ (0 : Nat) = (0 : Nat) ∧ True) ∧ (List.getD (blkF [List.getD (DX.H
  x) (0 : Nat) (0 : Int), List.getD (DX.H x) (1 : Nat) (0 : Int), List.getD (DX.H x) (2 : Nat) (0 : Int), List.getD (DX.H x) (3 : Nat) (0 : Int), List.getD (DX.H x) (4 : Nat) (0 :
  Int), List.getD (DX.H x) (5 : Nat) (0 : Int), List.getD (DX.H x) (6 : Nat) (0 : Int), List.getD (DX.H x) (7 : Nat) (0 : Int)] (List.take (Int.toNat (64 : Int)) ([] : List Int))) (0
  : Nat) (0 : Int) = List.getD (DX.H x') (0 : Nat) (0 : Int) ∧ List.getD (blkF [List.getD (DX.H x) (0 : Nat) (0 : Int), List.getD (DX.H x) (1 : Nat) (0 : Int), List.getD (DX.H x) (2
  : Nat) (0 : Int), List.getD (DX.H x) (3 : Nat) (0 : Int), List.getD (DX.H x) (4 : Nat) (0 : Int), List.getD (DX.H x) (5 : Nat) (0 : Int), List.getD (DX.H x) (6 : Nat) (0 : Int),
  List.getD (DX.H x) (7 : Nat) (0 : Int)] (List.take (Int.toNat (64 : Int)) ([] : List Int))) (1 : Nat) (0 : Int) = List.getD (DX.H x') (1 : Nat) (0 : Int) ∧ List.getD (blkF
  [List.getD (DX.H x) (0 : Nat) (0 : Int), List.getD (DX.H x) (1 : Nat) (0 : Int), List.getD (DX.H x) (2 : Nat) (0 : Int), List.getD (DX.H x) (3 : Nat) (0 : Int), List.getD (DX.H x)
  (4 : Nat) (0 : Int), List.getD (DX.H x) (5 : Nat) (0 : Int), List.getD (DX.H x) (6 : Nat) (0 : Int), List.getD (DX.H x) (7 : Nat) (0 : Int)] (List.take (Int.toNat (64 : Int)) ([] :
  List Int))) (2 : Nat) (0 : Int) = List.getD (DX.H x') (2 : Nat) (0 : Int) ∧ List.getD (blkF [List.getD (DX.H x) (0 : Nat) (0 : Int), List.getD (DX.H x) (1 : Nat) (0 : Int),
  List.getD (DX.H x) (2 : Nat) (0 : Int), List.getD (DX.H x) (3 : Nat) (0 : Int), List.getD (DX.H x) (4 : Nat) (0 : Int), List.getD (DX.H x) (5 : Nat) (0 : Int), List.getD (DX.H x)
  (6 : Nat) (0 : Int), List.getD (DX.H x) (7 : Nat) (0 : Int)] (List.take (Int.toNat (64 : Int)) ([] : List Int))) (3 : Nat) (0 : Int) = List.getD (DX.H x') (3 : Nat) (0 : Int) ∧
  List.getD (blkF [List.getD (DX.H x) (0 : Nat) (0 : Int), List.getD (DX.H x) (1 : Nat) (0 : Int), List.getD (DX.H x) (2 : Nat) (0 : Int), List.getD (DX.H x) (3 : Nat) (0 : Int),
  List.getD (DX.H x) (4 : Nat) (0 : Int), List.getD (DX.H x) (5 : Nat) (0 : Int), List.getD (DX.H x) (6 : Nat) (0 : Int), List.getD (DX.H x) (7 : Nat) (0 : Int)] (List.take
  (Int.toNat (64 : Int)) ([] : List Int))) (4 : Nat) (0 : Int) = List.getD (DX.H x') (4 : Nat) (0 : Int) ∧ List.getD (blkF [List.getD (DX.H x) (0 : Nat) (0 : Int), List.getD (DX.H x)
  (1 : Nat) (0 : Int), List.getD (DX.H x) (2 : Nat) (0 : Int), List.getD (DX.H x) (3 : Nat) (0 : Int), List.getD (DX.H x) (4 : Nat) (0 : Int), List.getD (DX.H x) (5 : Nat) (0 : Int),
  List.getD (DX.H x) (6 : Nat) (0 : Int), List.getD (DX.H x) (7 : Nat) (0 : Int)] (List.take (Int.toNat (64 : Int)) ([] : List Int))) (5 : Nat) (0 : Int) = List.getD (DX.H x') (5 :
  Nat) (0 : Int) ∧ List.getD (blkF [List.getD (DX.H x) (0 : Nat) (0 : Int), List.getD (DX.H x) (1 : Nat) (0 : Int), List.getD (DX.H x) (2 : Nat) (0 : Int), List.getD (DX.H x) (3 :
  Nat) (0 : Int), List.getD (DX.H x) (4 : Nat) (0 : Int), List.getD (DX.H x) (5 : Nat) (0 : Int), List.getD (DX.H x) (6 : Nat) (0 : Int), List.getD (DX.H x) (7 : Nat) (0 : Int)]
  (List.take (Int.toNat (64 : Int)) ([] : List Int))) (6 : Nat) (0 : Int) = List.getD (DX.H x') (6 : Nat) (0 : Int) ∧ List.getD (blkF [List.getD (DX.H x) (0 : Nat) (0 : Int),
  List.getD (DX.H x) (1 : Nat) (0 : Int), List.getD (DX.H x) (2 : Nat) (0 : Int), List.getD (DX.H x) (3 : Nat) (0 : Int), List.getD (DX.H x) (4 : Nat) (0 : Int), List.getD (DX.H x)
  (5 : Nat) (0 : Int), List.getD (DX.H x) (6 : Nat) (0 : Int), List.getD (DX.H x) (7 : Nat) (0 : Int)] (List.take (Int.toNat (64 : Int)) ([] : List Int))) (7 : Nat) (0 : Int) =
  List.getD (DX.H x') (7 : Nat) (0 : Int) ∧ True) ∧ False ∧ ((0 : Int) = (0 : Int) ∧ (0 : Int) = (0 : Int) ∧ (0 : Int) = (0 : Int) ∧ (0 : Int) = (0 : Int) ∧ (0 : Int) = (0 : Int) ∧
  (0 : Int) = (0 : Int) ∧ (0 : Int) = (0 : Int) ∧ (0 : Int) = (0 : Int) ∧ (0 : Int) = (0 : Int) ∧ (0 : Int) = (0 : Int) ∧ (0 : Int) = (0 : Int) ∧ (0 : Int) = (0 : Int) ∧ (0 : Int) =
  (0 : Int) ∧ (0 : Int) = (0 : Int) ∧ (0 : Int) = (0 : Int) ∧ (0 : Int) = (0 : Int) ∧ (0 : Int) = (0 : Int) ∧ (0 : Int) = (0 : Int) ∧ (0 : Int) = (0 : Int) ∧ (0 : Int) = (0 : Int) ∧
  (0 : Int) = (0 : Int) ∧ (0 : Int) = (0 : Int) ∧ (0 : Int) = (0 : Int) ∧ (0 : Int) = (0 : Int) ∧ (0 : Int) = (0 : Int) ∧ (0 : Int) = (0 : Int) ∧ (0 : Int) = (0 : Int) ∧ (0 : Int) =
  (0 : Int) ∧ (0 : Int) = (0 : Int) ∧ (0 : Int) = (0 : Int) ∧ (0 : Int) = (0 : Int) ∧ (0 : Int) = (0 : Int) ∧ True) ∧ True) ∨ ∃ (x' : DX), R false x' ∧ x'.2 + (1 : Nat) ≤ x.2 ∧ true
  = true ∧ ((0 : Nat) = (0 : Nat) ∧ (List.drop (Int.toNat (64 : Int)) ([] : List Int) = ([] : List Int) ∧ (false = true → false = true)) ∧ (0 : Nat) = (0 : Nat) ∧ True) ∧ (List.getD
  (blkF [List.getD (DX.H x) (0 : Nat) (0 : Int), List.getD (DX.H x) (1 : Nat) (0 : Int), List.getD (DX.H x) (2 : Nat) (0 : Int), List.getD (DX.H x) (3 : Nat) (0 : Int), List.getD
  (DX.H x) (4 : Nat) (0 : Int), List.getD (DX.H x) (5 : Nat) (0 : Int), List.getD (DX.H x) (6 : Nat) (0 : Int), List.getD (DX.H x) (7 : Nat) (0 : Int)] (List.take (Int.toNat (64 :
  Int)) ([] : List Int))) (0 : Nat) (0 : Int) = List.getD (DX.H x') (0 : Nat) (0 : Int) ∧ List.getD (blkF [List.getD (DX.H x) (0 : Nat) (0 : Int), List.getD (DX.H x) (1 : Nat) (0 :
  Int), List.getD (DX.H x) (2 : Nat) (0 : Int), List.getD (DX.H x) (3 : Nat) (0 : Int), List.getD (DX.H x) (4 : Nat) (0 : Int), List.getD (DX.H x) (5 : Nat) (0 : Int), List.getD
  (DX.H x) (6 : Nat) (0 : Int), List.getD (DX.H x) (7 : Nat) (0 : Int)] (List.take (Int.toNat (64 : Int)) ([] : List Int))) (1 : Nat) (0 : Int) = List.getD (DX.H x') (1 : Nat) (0 :
  Int) ∧ List.getD (blkF [List.getD (DX.H x) (0 : Nat) (0 : Int), List.getD (DX.H x) (1 : Nat) (0 : Int), List.getD (DX.H x) (2 : Nat) (0 : Int), List.getD (DX.H x) (3 : Nat) (0 :
  Int), List.getD (DX.H x) (4 : Nat) (0 : Int), List.getD (DX.H x) (5 : Nat) (0 : Int), List.getD (DX.H x) (6 : Nat) (0 : Int), List.getD (DX.H x) (7 : Nat) (0 : Int)] (List.take
  (Int.toNat (64 : Int)) ([] : List Int))) (2 : Nat) (0 : Int) = List.getD (DX.H x') (2 : Nat) (0 : Int) ∧ List.getD (blkF [List.getD (DX.H x) (0 : Nat) (0 : Int), List.getD (DX.H x)
  (1 : Nat) (0 : Int), List.getD (DX.H x) (2 : Nat) (0 : Int), List.getD (DX.H x) (3 : Nat) (0 : Int), List.getD (DX.H x) (4 : Nat) (0 : Int), List.getD (DX.H x) (5 : Nat) (0 : Int),
  List.getD (DX.H x) (6 : Nat) (0 : Int), List.getD (DX.H x) (7 : Nat) (0 : Int)] (List.take (Int.toNat (64 : Int)) ([] : List Int))) (3 : Nat) (0 : Int) = List.getD (DX.H x') (3 :
  Nat) (0 : Int) ∧ List.getD (blkF [List.getD (DX.H x) (0 : Nat) (0 : Int), List.getD (DX.H x) (1 : Nat) (0 : Int), List.getD (DX.H x) (2 : Nat) (0 : Int), List.getD (DX.H x) (3 :
  Nat) (0 : Int), List.getD (DX.H x) (4 : Nat) (0 : Int), List.getD (DX.H x) (5 : Nat) (0 : Int), List.getD (DX.H x) (6 : Nat) (0 : Int), List.getD (DX.H x) (7 : Nat) (0 : Int)]
  (List.take (Int.toNat (64 : Int)) ([] : List Int))) (4 : Nat) (0 : Int) = List.getD (DX.H x') (4 : Nat) (0 : Int) ∧ List.getD (blkF [List.getD (DX.H x) (0 : Nat) (0 : Int),
  List.getD (DX.H x) (1 : Nat) (0 : Int), List.getD (DX.H x) (2 : Nat) (0 : Int), List.getD (DX.H x) (3 : Nat) (0 : Int), List.getD (DX.H x) (4 : Nat) (0 : Int), List.getD (DX.H x)
  (5 : Nat) (0 : Int), List.getD (DX.H x) (6 : Nat) (0 : Int), List.getD (DX.H x) (7 : Nat) (0 : Int)] (List.take (Int.toNat (64 : Int)) ([] : List Int))) (5 : Nat) (0 : Int) =
  List.getD (DX.H x') (5 : Nat) (0 : Int) ∧ List.getD (blkF [List.getD (DX.H x) (0 : Nat) (0 : Int), List.getD (DX.H x) (1 : Nat) (0 : Int), List.getD (DX.H x) (2 : Nat) (0 : Int),
  List.getD (DX.H x) (3 : Nat) (0 : Int), List.getD (DX.H x) (4 : Nat) (0 : Int), List.getD (DX.H x) (5 : Nat) (0 : Int), List.getD (DX.H x) (6 : Nat) (0 : Int), List.getD (DX.H x)
  (7 : Nat) (0 : Int)] (List.take (Int.toNat (64 : Int)) ([] : List Int))) (6 : Nat) (0 : Int) = List.getD (DX.H x') (6 : Nat) (0 : Int) ∧ List.getD (blkF [List.getD (DX.H x) (0 :
  Nat) (0 : Int), List.getD (DX.H x) (1 : Nat) (0 : Int), List.getD (DX.H x) (2 : Nat) (0 : Int), List.getD (DX.H x) (3 : Nat) (0 : Int), List.getD (DX.H x) (4 : Nat) (0 : Int),
  List.getD (DX.H x) (5 : Nat) (0 : Int), List.getD (DX.H x) (6 : Nat) (0 : Int), List.getD (DX.H x) (7 : Nat) (0 : Int)] (List.take (Int.toNat (64 : Int)) ([] : List Int))) (7 :
  Nat) (0 : Int) = List.getD (DX.H x') (7 : Nat) (0 : Int) ∧ True) ∧ ((0 : Int) = (0 : Int) ∧ (0 : Int) = (0 : Int) ∧ (0 : Int) = (0 : Int) ∧ (0 : Int) = (0 : Int) ∧ (0 : Int) = (0 :
  Int) ∧ (0 : Int) = (0 : Int) ∧ (0 : Int) = (0 : Int) ∧ (0 : Int) = (0 : Int) ∧ (0 : Int) = (0 : Int) ∧ (0 : Int) = (0 : Int) ∧ (0 : Int) = (0 : Int) ∧ (0 : Int) = (0 : Int) ∧ (0 :
  Int) = (0 : Int) ∧ (0 : Int) = (0 : Int) ∧ (0 : Int) = (0 : Int) ∧ (0 : Int) = (0 : Int) ∧ (0 : Int) = (0 : Int) ∧ (0 : Int) = (0 : Int) ∧ (0 : Int) = (0 : Int) ∧ (0 : Int) = (0 :
  Int) ∧ (0 : Int) = (0 : Int) ∧ (0 : Int) = (0 : Int) ∧ (0 : Int) = (0 : Int) ∧ (0 : Int) = (0 : Int) ∧ (0 : Int) = (0 : Int) ∧ (0 : Int) = (0 : Int) ∧ (0 : Int) = (0 : Int) ∧ (0 :
  Int) = (0 : Int) ∧ (0 : Int) = (0 : Int) ∧ (0 : Int) = (0 : Int) ∧ (0 : Int) = (0 : Int) ∧ (0 : Int) = (0 : Int) ∧ True) ∧ True)) ∧ (decide ((↑(0 : Nat) : Int) > (0 : Int)) = false
  → wr IntKind.u8 (Int.fdiv (List.getD (DX.H x) (0 : Nat) (0 : Int)) ((2 : Int) ^ min (Int.toNat (24 : Int)) (IntKind.bits IntKind.u32))) = List.getD d (0 : Nat) (0 : Int) ∧ wr
  IntKind.u8 (Int.fdiv (List.getD (DX.H x) (0 : Nat) (0 : Int)) ((2 : Int) ^ min (Int.toNat (16 : Int)) (IntKind.bits IntKind.u32))) = List.getD d (1 : Nat) (0 : Int) ∧ wr IntKind.u8
  (Int.fdiv (List.getD (DX.H x) (0 : Nat) (0 : Int)) ((2 : Int) ^ min (Int.toNat (8 : Int)) (IntKind.bits IntKind.u32))) = List.getD d (2 : Nat) (0 : Int) ∧ wr IntKind.u8 (Int.fdiv
  (List.getD (DX.H x) (0 : Nat) (0 : Int)) ((2 : Int) ^ min (Int.toNat (0 : Int)) (IntKind.bits IntKind.u32))) = List.getD d (3 : Nat) (0 : Int) ∧ wr IntKind.u8 (Int.fdiv (List.getD
  (DX.H x) (1 : Nat) (0 : Int)) ((2 : Int) ^ min (Int.toNat (24 : Int)) (IntKind.bits IntKind.u32))) = List.getD d (4 : Nat) (0 : Int) ∧ wr IntKind.u8 (Int.fdiv (List.getD (DX.H x)
  (1 : Nat) (0 : Int)) ((2 : Int) ^ min (Int.toNat (16 : Int)) (IntKind.bits IntKind.u32))) = List.getD d (5 : Nat) (0 : Int) ∧ wr IntKind.u8 (Int.fdiv (List.getD (DX.H x) (1 : Nat)
  (0 : Int)) ((2 : Int) ^ min (Int.toNat (8 : Int)) (IntKind.bits IntKind.u32))) = List.getD d (6 : Nat) (0 : Int) ∧ wr IntKind.u8 (Int.fdiv (List.getD (DX.H x) (1 : Nat) (0 : Int))
  ((2 : Int) ^ min (Int.toNat (0 : Int)) (IntKind.bits IntKind.u32))) = List.getD d (7 : Nat) (0 : Int) ∧ wr IntKind.u8 (Int.fdiv (List.getD (DX.H x) (2 : Nat) (0 : Int)) ((2 : Int)
  ^ min (Int.toNat (24 : Int)) (IntKind.bits IntKind.u32))) = List.getD d (8 : Nat) (0 : Int) ∧ wr IntKind.u8 (Int.fdiv (List.getD (DX.H x) (2 : Nat) (0 : Int)) ((2 : Int) ^ min
  (Int.toNat (16 : Int)) (IntKind.bits IntKind.u32))) = List.getD d (9 : Nat) (0 : Int) ∧ wr IntKind.u8 (Int.fdiv (List.getD (DX.H x) (2 : Nat) (0 : Int)) ((2 : Int) ^ min (Int.toNat
  (8 : Int)) (IntKind.bits IntKind.u32))) = List.getD d (10 : Nat) (0 : Int) ∧ wr IntKind.u8 (Int.fdiv (List.getD (DX.H x) (2 : Nat) (0 : Int)) ((2 : Int) ^ min (Int.toNat (0 : Int))
  (IntKind.bits IntKind.u32))) = List.getD d (11 : Nat) (0 : Int) ∧ wr IntKind.u8 (Int.fdiv (List.getD (DX.H x) (3 : Nat) (0 : Int)) ((2 : Int) ^ min (Int.toNat (24 : Int))
  (IntKind.bits IntKind.u32))) = List.getD d (12 : Nat) (0 : Int) ∧ wr IntKind.u8 (Int.fdiv (List.getD (DX.H x) (3 : Nat) (0 : Int)) ((2 : Int) ^ min (Int.toNat (16 : Int))
  (IntKind.bits IntKind.u32))) = List.getD d (13 : Nat) (0 : Int) ∧ wr IntKind.u8 (Int.fdiv (List.getD (DX.H x) (3 : Nat) (0 : Int)) ((2 : Int) ^ min (Int.toNat (8 : Int))
  (IntKind.bits IntKind.u32))) = List.getD d (14 : Nat) (0 : Int) ∧ wr IntKind.u8 (Int.fdiv (List.getD (DX.H x) (3 : Nat) (0 : Int)) ((2 : Int) ^ min (Int.toNat (0 : Int))
  (IntKind.bits IntKind.u32))) = List.getD d (15 : Nat) (0 : Int) ∧ wr IntKind.u8 (Int.fdiv (List.getD (DX.H x) (4 : Nat) (0 : Int)) ((2 : Int) ^ min (Int.toNat (24 : Int))
  (IntKind.bits IntKind.u32))) = List.getD d (16 : Nat) (0 : Int) ∧ wr IntKind.u8 (Int.fdiv (List.getD (DX.H x) (4 : Nat) (0 : Int)) ((2 : Int) ^ min (Int.toNat (16 : Int))
  (IntKind.bits IntKind.u32))) = List.getD d (17 : Nat) (0 : Int) ∧ wr IntKind.u8 (Int.fdiv (List.getD (DX.H x) (4 : Nat) (0 : Int)) ((2 : Int) ^ min (Int.toNat (8 : Int))
  (IntKind.bits IntKind.u32))) = List.getD d (18 : Nat) (0 : Int) ∧ wr IntKind.u8 (Int.fdiv (List.getD (DX.H x) (4 : Nat) (0 : Int)) ((2 : Int) ^ min (Int.toNat (0 : Int))
  (IntKind.bits IntKind.u32))) = List.getD d (19 : Nat) (0 : Int) ∧ wr IntKind.u8 (Int.fdiv (List.getD (DX.H x) (5 : Nat) (0 : Int)) ((2 : Int) ^ min (Int.toNat (24 : Int))
  (IntKind.bits IntKind.u32))) = List.getD d (20 : Nat) (0 : Int) ∧ wr IntKind.u8 (Int.fdiv (List.getD (DX.H x) (5 : Nat) (0 : Int)) ((2 : Int) ^ min (Int.toNat (16 : Int))
  (IntKind.bits IntKind.u32))) = List.getD d (21 : Nat) (0 : Int) ∧ wr IntKind.u8 (Int.fdiv (List.getD (DX.H x) (5 : Nat) (0 : Int)) ((2 : Int) ^ min (Int.toNat (8 : Int))
  (IntKind.bits IntKind.u32))) = List.getD d (22 : Nat) (0 : Int) ∧ wr IntKind.u8 (Int.fdiv (List.getD (DX.H x) (5 : Nat) (0 : Int)) ((2 : Int) ^ min (Int.toNat (0 : Int))
  (IntKind.bits IntKind.u32))) = List.getD d (23 : Nat) (0 : Int) ∧ wr IntKind.u8 (Int.fdiv (List.getD (DX.H x) (6 : Nat) (0 : Int)) ((2 : Int) ^ min (Int.toNat (24 : Int))
  (IntKind.bits IntKind.u32))) = List.getD d (24 : Nat) (0 : Int) ∧ wr IntKind.u8 (Int.fdiv (List.getD (DX.H x) (6 : Nat) (0 : Int)) ((2 : Int) ^ min (Int.toNat (16 : Int))
  (IntKind.bits IntKind.u32))) = List.getD d (25 : Nat) (0 : Int) ∧ wr IntKind.u8 (Int.fdiv (List.getD (DX.H x) (6 : Nat) (0 : Int)) ((2 : Int) ^ min (Int.toNat (8 : Int))
  (IntKind.bits IntKind.u32))) = List.getD d (26 : Nat) (0 : Int) ∧ wr IntKind.u8 (Int.fdiv (List.getD (DX.H x) (6 : Nat) (0 : Int)) ((2 : Int) ^ min (Int.toNat (0 : Int))
  (IntKind.bits IntKind.u32))) = List.getD d (27 : Nat) (0 : Int) ∧ wr IntKind.u8 (Int.fdiv (List.getD (DX.H x) (7 : Nat) (0 : Int)) ((2 : Int) ^ min (Int.toNat (24 : Int))
  (IntKind.bits IntKind.u32))) = List.getD d (28 : Nat) (0 : Int) ∧ wr IntKind.u8 (Int.fdiv (List.getD (DX.H x) (7 : Nat) (0 : Int)) ((2 : Int) ^ min (Int.toNat (16 : Int))
  (IntKind.bits IntKind.u32))) = List.getD d (29 : Nat) (0 : Int) ∧ wr IntKind.u8 (Int.fdiv (List.getD (DX.H x) (7 : Nat) (0 : Int)) ((2 : Int) ^ min (Int.toNat (8 : Int))
  (IntKind.bits IntKind.u32))) = List.getD d (30 : Nat) (0 : Int) ∧ wr IntKind.u8 (Int.fdiv (List.getD (DX.H x) (7 : Nat) (0 : Int)) ((2 : Int) ^ min (Int.toNat (0 : Int))
  (IntKind.bits IntKind.u32))) = List.getD d (31 : Nat) (0 : Int) ∧ True))))
  ) := by kernel_rfl
--@end
end Go.Proofs.YtcaomfbcchemnabDoor

/- Chapter 21: digests: sum. -/
namespace Go.Proofs.YtcaomfbcchemnabDoor
open Go
set_option linter.unusedVariables false
set_option linter.unusedSimpArgs false
set_option maxHeartbeats 4000000
set_option maxRecDepth 10000
/-- how many zeros fill up -/
def zc (n : Nat) : Nat := (119 - n % 64) % 64
def len8 (n : Int) (j : Nat) : List Int := (List.range j).map fun k : Nat => wr .u8 (Int.fdiv n (2 ^ min (Int.toNat (56 - 8 * (k : Int))) 64))
def padF (m : List Int) : List Int := m ++ [128] ++ List.replicate (zc m.length) 0 ++ len8 (wr .u64 (wr .u64 (m.length : Int) * 8)) 8
noncomputable def blkAll : Nat → List Int → List Int → List Int
  | 0, h, _ => h
  | n + 1, h, m => blkAll n (blkF h (m.take 64)) (m.drop 64)
def H0 : List Int := [1779033703, 3144134277, 1013904242, 2773480762, 1359893119, 2600822924, 528734635, 1541459225]
def digF (H : List Int) : List Int := (List.range 32).map fun i => wr .u8 (Int.fdiv (H.getD (i / 4) 0) (2 ^ min (24 - 8 * (i % 4)) 32))
noncomputable def shaF (m : List Int) : List Int := digF (blkAll ((padF m).length / 64) H0 (padF m))
theorem len8_len (n : Int) (j : Nat) : (len8 n j).length = j := by simp [len8]
theorem len8_succ (n : Int) (j : Nat) : len8 n (j + 1) = len8 n j ++ [wr .u8 (Int.fdiv n (2 ^ min (Int.toNat (56 - 8 * (j : Int))) 64))] := by simp [len8, List.range_succ]
theorem pad_len (m : List Int) : (padF m).length % 64 = 0 := by
  simp only [padF, List.length_append, List.length_replicate, len8_len, List.length_cons, List.length_nil, zc]
  omega
theorem row8L {H : List Int} (h : H.length = 8) : [H.getD 0 0, H.getD 1 0, H.getD 2 0, H.getD 3 0, H.getD 4 0, H.getD 5 0, H.getD 6 0, H.getD 7 0] = H := all8 (P := fun H => [H.getD 0 0, H.getD 1 0, H.getD 2 0, H.getD 3 0, H.getD 4 0, H.getD 5 0, H.getD 6 0, H.getD 7 0] = H) (fun _ _ _ _ _ _ _ _ => rfl) H h
theorem sum_pure (ps : List (List Int)) (p : List Int) (r : List (List Int)) (hps : ps = p :: r) (hp : p ≠ []) (hsz : ps.flatten.length ≤ 1000000) (hpl2 : ps.length ≤ 1000000) : PureC E2 87 [.psl Th.byss ps false] (dig32 (shaF ps.flatten)) := by
  refine pure_of_call E2_ok (callOk_of E2_ok F20_ok 400) ?_
  rw [cond_sum]
  have hpl : 0 < ps.length := by rw [hps]; simp
  simp only [bif_true, bif_false, bif_nt, bif_tf, bif_ft, beq_iff_eq, bne_iff_ne, beq_eq_false_iff_ne, bne_eq_false_iff_eq, decide_eq_true_eq, decide_eq_false_iff_not, Bool.or_eq_true, Bool.or_eq_false_iff, Bool.not_eq_true', Bool.not_eq_false', Bool.and_eq_true, Bool.and_true, Bool.true_and, Bool.and_eq_false_iff, beq_self_eq_true, mm2_max, mm2_min, ne_eq, and_true, true_and, Bool.true_eq_false, Bool.false_eq_true, false_or, or_false, true_implies, Int.ofNat_eq_natCast, not_true_eq_false, not_false_eq_true, Decidable.not_not, eq_self, false_and, and_false, exists_false, IntKind.bits, Int.toNat_natCast, imp_self]
  have htm : ∀ n : Nat, Int.tmod (n : Int) 64 = ((n % 64 : Nat) : Int) := fun n => rfl
  refine ⟨fun s x => match s with | true => x.k = 0 ∧ x.r = ps.length + 1 | false => 1 ≤ x.k ∧ x.k ≤ ps.length ∧ x.D = (ps.take x.k).flatten ∧ x.r = ps.length - x.k, ⟨⟨0, ps.length + 1, [], [], 0, 0, 0, 0⟩, ⟨rfl, rfl⟩, rfl⟩, ?_, ?_⟩
  · rintro x ⟨hk, hr⟩
    refine And.intro (fun _ => ?_) (fun h => absurd h (by rw [hk]; omega))
    rw [hk]
    refine ⟨by omega, by omega, fun y hy => ?_⟩
    rw [hps] at hy
    cases hy
    refine And.intro (fun h => absurd h hp) (fun _ => ?_)
    refine ⟨?_, ⟨1, ps.length - 1, p, [], 0, 0, 0, 0⟩, ⟨Nat.le_refl _, hpl, ?_, rfl⟩, ?_, ⟨rfl, ?_⟩, rfl⟩
    · have : p.length ≤ ps.flatten.length := by rw [hps]; simp
      omega
    · rw [hps]; simp
    · show ps.length - 1 + 1 ≤ x.r
      omega
    · exact wr64 (by omega) (by omega)
  · rintro x ⟨hk1, hk2, hD, hr⟩
    refine And.intro (fun h => ?_) (fun h => ?_)
    · have hkl : x.k < ps.length := by omega
      refine ⟨by omega, by omega, fun y hy => ?_⟩
      have ht : (ps.take (x.k + 1)).flatten = x.D ++ y := by rw [List.take_add_one, hy, hD]; simp
      have hsum : (ps.take (x.k + 1)).flatten.length ≤ ps.flatten.length := by
        have e : ps.flatten = (ps.take (x.k + 1)).flatten ++ (ps.drop (x.k + 1)).flatten := by rw [← List.flatten_append, List.take_append_drop]
        rw [e, List.length_append]; omega
      rw [ht, List.length_append] at hsum
      have hw : wr .i64 ((x.k : Int) + 1) = ((x.k + 1 : Nat) : Int) := wr64 (by omega) (by omega)
      refine And.intro (fun hy0 => ?_) (fun hy0 => ?_)
      · refine ⟨⟨x.k + 1, x.r - 1, x.D, [], 0, 0, 0, 0⟩, ⟨by show 1 ≤ x.k + 1; omega, hkl, ?_, by show x.r - 1 = ps.length - (x.k + 1); omega⟩, by show x.r - 1 + 1 ≤ x.r; omega, ⟨rfl, hw⟩, rfl⟩
        rw [ht, hy0, List.append_nil]
      · refine ⟨⟨Nat.le_refl _, Nat.zero_le _, by omega⟩, ⟨x.k + 1, x.r - 1, x.D ++ y, [], 0, 0, 0, 0⟩, ⟨by show 1 ≤ x.k + 1; omega, hkl, ht.symm, by show x.r - 1 = ps.length - (x.k + 1); omega⟩, by show x.r - 1 + 1 ≤ x.r; omega, ⟨by simp, hw⟩, by rw [List.take_length]⟩
    · have hk : x.k = ps.length := by omega
      rw [hk, List.take_length] at hD
      clear hr hk1 hk2 hk h
      generalize ps.flatten = m at *
      rw [hD]
      have hzc : zc m.length < 64 := by unfold zc; omega
      refine ⟨⟨Nat.le_refl _, Nat.zero_le _, by omega⟩, fun y => ∃ j, j ≤ zc m.length ∧ y.D = m ++ [128] ++ List.replicate j 0 ∧ y.r = zc m.length - j, ⟨⟨0, zc m.length, m ++ [128], [], 0, 0, 0, 0⟩, ⟨0, Nat.zero_le _, by simp, rfl⟩, by simp, by simp⟩, ?_⟩
      rintro y ⟨j, hj, hyD, hyr⟩
      have hyl : y.D.length = m.length + 1 + j := by rw [hyD]; simp; omega
      refine And.intro (fun h => ?_) (fun h => ?_)
      · have hjl : j < zc m.length := by
          rcases Nat.lt_or_ge j (zc m.length) with h1 | h1
          · exact h1
          · exfalso
            apply h
            rw [htm, hyl]
            unfold zc at *
            omega
        refine ⟨⟨Nat.le_refl _, Nat.zero_le _, by omega⟩, ⟨0, zc m.length - (j + 1), y.D ++ [0], [], 0, 0, 0, 0⟩, ⟨j + 1, hjl, ?_, rfl⟩, by show zc m.length - (j + 1) + 1 ≤ y.r; omega, by simp, by rw [List.take_length]⟩
        show y.D ++ [0] = _
        rw [hyD, List.replicate_succ']; simp
      · have hje : j = zc m.length := by
          rw [htm, hyl] at h
          unfold zc at *
          omega
        rw [hje] at hyD
        rw [hje] at hyl
        generalize hB : y.D = base at *
        generalize hN : wr .u64 (wr .u64 (m.length : Int) * 8) = N
        refine ⟨fun z => ∃ q, q ≤ 8 ∧ z.D = base ++ len8 N q ∧ z.j = 56 - 8 * (q : Int) ∧ z.r = 8 - q, ⟨⟨0, 8, base, [], 0, 0, 0, 56⟩, ⟨0, by omega, by simp [len8], rfl, rfl⟩, ⟨rfl, rfl⟩, rfl⟩, ?_⟩
        rintro z ⟨q, hq, hzD, hzj, hzr⟩
        have hzl : z.D.length = base.length + q := by rw [hzD, List.length_append, len8_len]
        refine And.intro (fun h => ?_) (fun h => ?_)
        · refine ⟨h, ⟨Nat.le_refl _, Nat.zero_le _, by omega⟩, ⟨0, 8 - (q + 1), z.D ++ [wr .u8 (N.fdiv (2 ^ min z.j.toNat 64))], [], 0, 0, 0, z.j - 8⟩, ⟨q + 1, by omega, ?_, ?_, rfl⟩, by show 8 - (q + 1) + 1 ≤ z.r; omega, ⟨by simp, wr64 (by omega) (by omega)⟩, by rw [List.take_length]⟩
          · show z.D ++ _ = _
            rw [len8_succ, ← hzj, ← List.append_assoc, ← hzD]
          · show z.j - 8 = 56 - 8 * ((q + 1 : Nat) : Int)
            omega
        · obtain rfl : q = 8 := by omega
          have hzP : z.D = padF m := by rw [hzD, hyD, ← hN]; rfl
          rw [hzP]
          have hL := pad_len m
          have hL0 : 0 < (padF m).length := by rw [← hzP, hzl]; omega
          generalize hFIN : blkAll ((padF m).length / 64) H0 (padF m) = FIN
          have hsha : shaF m = digF FIN := by rw [← hFIN]; rfl
          rw [hsha]
          generalize padF m = L at *
          refine ⟨fun s u => match s with | true => u.n + u.m = L.length ∧ u.m % 64 = 0 ∧ 0 < u.m ∧ u.H.length = 8 ∧ blkAll (u.m / 64) u.H (L.drop u.n) = FIN ∧ u.r = u.m | false => u.H = FIN ∧ u.r = 0, ⟨⟨0, L.length, [], H0, 0, L.length, 0, 0⟩, ⟨by simp, hL, hL0, rfl, hFIN, rfl⟩, ⟨rfl, rfl⟩, ⟨rfl, rfl, rfl, rfl, rfl, rfl, rfl, rfl⟩, rfl⟩, ?_, ?_⟩
          · rintro u ⟨hu1, hu2, hu3, hu4, hu5, hu6⟩
            refine And.intro (fun h => ?_) (fun h => absurd (by omega) h)
            simp only [row8L hu4]
            have hdiv : u.m / 64 = (u.m - 64) / 64 + 1 := by omega
            rw [hdiv] at hu5
            have hfin : blkAll ((u.m - 64) / 64) (blkF u.H ((L.drop u.n).take 64)) (L.drop (u.n + 64)) = FIN := by rw [← hu5]; show _ = blkAll _ _ ((L.drop u.n).drop 64); rw [List.drop_drop]
            refine ⟨⟨by omega, by omega⟩, by show u.n + 64 ≤ _; omega, by simp; omega, ⟨by omega, by omega⟩, ?_⟩
            have h8 : (blkF u.H ((L.drop u.n).take 64)).length = 8 := blkF_len hu4 (by simp; omega)
            refine And.intro (fun h64 => ⟨⟨0, u.m - 64, [], blkF u.H ((L.drop u.n).take 64), u.n + 64, u.m - 64, mx2 u.fz L.length, 0⟩, ⟨?_, ?_, ?_, h8, hfin, rfl⟩, ?_, ⟨rfl, rfl⟩, ⟨rfl, rfl, rfl, rfl, rfl, rfl, rfl, rfl⟩, rfl⟩) (fun h64 => ⟨⟨0, 0, [], blkF u.H ((L.drop u.n).take 64), 0, 0, 0, 0⟩, ⟨?_, rfl⟩, ?_, ⟨rfl, rfl, rfl, rfl, rfl, rfl, rfl, rfl⟩⟩)
            · show u.n + 64 + (u.m - 64) = _; omega
            · show (u.m - 64) % 64 = 0; omega
            · show 0 < u.m - 64; omega
            · show u.m - 64 + 1 ≤ u.r; omega
            · have e : (u.m - 64) / 64 = 0 := by omega
              rw [e] at hfin
              exact hfin
            · show 0 + 1 ≤ u.r; omega
          · rintro u ⟨hu, hr⟩
            refine And.intro (fun h => absurd h (by simp)) (fun _ => ?_)
            rw [hu]
            exact ⟨rfl, rfl, rfl, rfl, rfl, rfl, rfl, rfl, rfl, rfl, rfl, rfl, rfl, rfl, rfl, rfl, rfl, rfl, rfl, rfl, rfl, rfl, rfl, rfl, rfl, rfl, rfl, rfl, rfl, rfl, rfl, rfl⟩
end Go.Proofs.YtcaomfbcchemnabDoor

/- Digests with a tag: Tagged, Value, hashed. -/
namespace Go.Proofs.YtcaomfbcchemnabDoor
open Go
set_option linter.unusedVariables false
set_option linter.unusedSimpArgs false
theorem encode_pure2 (v : Val) (hv : OkV v) : PureC E2 58 [.agg (encF false .vals v)] (.tup [.psl Th.bys (encodeF v).1 false, .int false .i64 (encodeF v).2]) := up2 (encode_pure v hv)
/-- a known string -/
def dTag {E : Eng thy} (ts : List ByteArray) : Dc E Nat where
  dec v := match v with | .str _ b => (match ts.findIdx? (fun t => t.data.toList == b.data.toList) with | some j => some j | none => none) | _ => none
  enc i := .str true (ts.getD i ⟨#[]⟩)
  ok v i h := by
    split at h
    · rename_i fl b
      split at h
      · rename_i j hj
        cases h
        refine ⟨rfl, rfl, fun σ g u hd => ?_⟩
        rw [List.findIdx?_eq_some_iff_getElem] at hj
        obtain ⟨hlt, he, _⟩ := hj
        have e : ts.getD i ⟨#[]⟩ = b := by
          rw [List.getD_eq_getElem?_getD, List.getElem?_eq_getElem hlt]
          have he := eq_of_beq he
          show ts[i] = b
          have h2 : ts[i].data = b.data := by rw [← Array.toList_inj]; exact he
          cases hx : ts[i]; cases b
          rw [hx] at h2
          simp only at h2
          rw [h2]
        rw [e]
        cases hd
        exact .str _ _
      · cases h
    · cases h
/-- stack, program, inputs, state -/
def tags : List ByteArray := [⟨#[115, 116, 97, 99, 107]⟩, ⟨#[112, 114, 111, 103, 114, 97, 109]⟩, ⟨#[105, 110, 112, 117, 116, 115]⟩, ⟨#[115, 116, 97, 116, 101]⟩]
/-- what sum asks of its parts -/
structure PartsOk (ps : List (List Int)) : Prop where
  ne : ∃ p r, ps = p :: r ∧ p ≠ []
  sz : ps.flatten.length ≤ 1000000
  len : ps.length ≤ 1000000
def gthV (cs : List (SV thy)) : Option Th := match cs with | .int _ .u8 _ :: _ => some .bys | _ => none
noncomputable def Ssum : Sum thy := sumF E2 gthV 4 (.cons (dByss E2) .nil) (fun x => PartsOk x.1) fun x => dig32 (shaF x.1.flatten)
theorem Ssum_ok : SumOk E2 87 Ssum := sumF_ok E2_ok (good_of (f := 87) rfl) fun x h => by
  obtain ⟨⟨p, r, h1, h2⟩, h3, h4⟩ := h
  exact sum_pure x.1 p r h1 h2 h3 h4
noncomputable def Senc : Sum thy := sumF E2 gthV 8 (.cons (dRow E2_ok Th.vals fun _ _ h => dec_nid (th := Th.vals) h : Dc E2 Val) .nil) (fun x => OkV x.1) fun x => .tup [.psl Th.bys (encodeF x.1).1 false, .int false .i64 (encodeF x.1).2]
theorem Senc_ok : SumOk E2 58 Senc := sumF_ok E2_ok (good_of (f := 58) rfl) fun x h => encode_pure2 x.1 h
noncomputable def Fdig : Fns thy := addS (addS F0 87 Ssum) 58 Senc
theorem Fdig_ok : FnsOk E2 Fdig := addS_ok (addS_ok F0_ok2 Ssum_ok) Senc_ok
--@cond hash0 | 35 | E2:Fdig | 400 | (v : Val) | [.str true ⟨#[115, 116, 97, 99, 107]⟩, .agg (encF false .vals v)] | (d : List Int) | dig32 d
theorem cond_hash0 (v : Val) (d : List Int) : callF E2 Fdig (vc E2 Fdig 400) 35 [.str true ⟨#[115, 116, 97, 99, 107]⟩, .agg (encF false .vals v)] hp0 0 (fun r => ret E2 (patch hp0 0 r) r.v (dig32 d)) = (
  OkV (Val.mk (Val.k v) (Val.n v) (Val.b v) (Val.l v)) ∧ PartsOk [[(5 : Int)], [(↑(115 : Nat) : Int), (↑(116 : Nat) : Int), (↑(97 : Nat) : Int), (↑(99 : Nat) : Int), (↑(107 : Nat) :
  Int)], Prod.fst (encodeF (Val.mk (Val.k v) (Val.n v) (Val.b v) (Val.l v)))] ∧ List.getD (shaF (List.flatten [[(5 : Int)], [(↑(115 : Nat) : Int), (↑(116 : Nat) : Int), (↑(97 : Nat)
  : Int), (↑(99 : Nat) : Int), (↑(107 : Nat) : Int)], Prod.fst (encodeF (Val.mk (Val.k v) (Val.n v) (Val.b v) (Val.l v)))])) (0 : Nat) (0 : Int) = List.getD d (0 : Nat) (0 : Int) ∧
  List.getD (shaF (List.flatten [[(5 : Int)], [(↑(115 : Nat) : Int), (↑(116 : Nat) : Int), (↑(97 : Nat) : Int), (↑(99 : Nat) : Int), (↑(107 : Nat) : Int)], Prod.fst (encodeF (Val.mk
  (Val.k v) (Val.n v) (Val.b v) (Val.l v)))])) (1 : Nat) (0 : Int) = List.getD d (1 : Nat) (0 : Int) ∧ List.getD (shaF (List.flatten [[(5 : Int)], [(↑(115 : Nat) : Int), (↑(116 :
  Nat) : Int), (↑(97 : Nat) : Int), (↑(99 : Nat) : Int), (↑(107 : Nat) : Int)], Prod.fst (encodeF (Val.mk (Val.k v) (Val.n v) (Val.b v) (Val.l v)))])) (2 : Nat) (0 : Int) = List.getD
  d (2 : Nat) (0 : Int) ∧ List.getD (shaF (List.flatten [[(5 : Int)], [(↑(115 : Nat) : Int), (↑(116 : Nat) : Int), (↑(97 : Nat) : Int), (↑(99 : Nat) : Int), (↑(107 : Nat) : Int)],
  Prod.fst (encodeF (Val.mk (Val.k v) (Val.n v) (Val.b v) (Val.l v)))])) (3 : Nat) (0 : Int) = List.getD d (3 : Nat) (0 : Int) ∧ List.getD (shaF (List.flatten [[(5 : Int)], [(↑(115 :
  Nat) : Int), (↑(116 : Nat) : Int), (↑(97 : Nat) : Int), (↑(99 : Nat) : Int), (↑(107 : Nat) : Int)], Prod.fst (encodeF (Val.mk (Val.k v) (Val.n v) (Val.b v) (Val.l v)))])) (4 : Nat)
  (0 : Int) = List.getD d (4 : Nat) (0 : Int) ∧ List.getD (shaF (List.flatten [[(5 : Int)], [(↑(115 : Nat) : Int), (↑(116 : Nat) : Int), (↑(97 : Nat) : Int), (↑(99 : Nat) : Int),
  (↑(107 : Nat) : Int)], Prod.fst (encodeF (Val.mk (Val.k v) (Val.n v) (Val.b v) (Val.l v)))])) (5 : Nat) (0 : Int) = List.getD d (5 : Nat) (0 : Int) ∧ List.getD (shaF (List.flatten
  [[(5 : Int)], [(↑(115 : Nat) : Int), (↑(116 : Nat) : Int), (↑(97 : Nat) : Int), (↑(99 : Nat) : Int), (↑(107 : Nat) : Int)], Prod.fst (encodeF (Val.mk (Val.k v) (Val.n v) (Val.b v)
  (Val.l v)))])) (6 : Nat) (0 : Int) = List.getD d (6 : Nat) (0 : Int) ∧ List.getD (shaF (List.flatten [[(5 : Int)], [(↑(115 : Nat) : Int), (↑(116 : Nat) : Int), (↑(97 : Nat) : Int),
  (↑(99 : Nat) : Int), (↑(107 : Nat) : Int)], Prod.fst (encodeF (Val.mk (Val.k v) (Val.n v) (Val.b v) (Val.l v)))])) (7 : Nat) (0 : Int) = List.getD d (7 : Nat) (0 : Int) ∧ List.getD
  (shaF (List.flatten [[(5 : Int)], [(↑(115 : Nat) : Int), (↑(116 : Nat) : Int), (↑(97 : Nat) : Int), (↑(99 : Nat) : Int), (↑(107 : Nat) : Int)], Prod.fst (encodeF (Val.mk (Val.k v)
  (Val.n v) (Val.b v) (Val.l v)))])) (8 : Nat) (0 : Int) = List.getD d (8 : Nat) (0 : Int) ∧ List.getD (shaF (List.flatten [[(5 : Int)], [(↑(115 : Nat) : Int), (↑(116 : Nat) : Int),
  (↑(97 : Nat) : Int), (↑(99 : Nat) : Int), (↑(107 : Nat) : Int)], Prod.fst (encodeF (Val.mk (Val.k v) (Val.n v) (Val.b v) (Val.l v)))])) (9 : Nat) (0 : Int) = List.getD d (9 : Nat)
  (0 : Int) ∧ List.getD (shaF (List.flatten [[(5 : Int)], [(↑(115 : Nat) : Int), (↑(116 : Nat) : Int), (↑(97 : Nat) : Int), (↑(99 : Nat) : Int), (↑(107 : Nat) : Int)], Prod.fst
  (encodeF (Val.mk (Val.k v) (Val.n v) (Val.b v) (Val.l v)))])) (10 : Nat) (0 : Int) = List.getD d (10 : Nat) (0 : Int) ∧ List.getD (shaF (List.flatten [[(5 : Int)], [(↑(115 : Nat) :
  Int), (↑(116 : Nat) : Int), (↑(97 : Nat) : Int), (↑(99 : Nat) : Int), (↑(107 : Nat) : Int)], Prod.fst (encodeF (Val.mk (Val.k v) (Val.n v) (Val.b v) (Val.l v)))])) (11 : Nat) (0 :
  Int) = List.getD d (11 : Nat) (0 : Int) ∧ List.getD (shaF (List.flatten [[(5 : Int)], [(↑(115 : Nat) : Int), (↑(116 : Nat) : Int), (↑(97 : Nat) : Int), (↑(99 : Nat) : Int), (↑(107
  : Nat) : Int)], Prod.fst (encodeF (Val.mk (Val.k v) (Val.n v) (Val.b v) (Val.l v)))])) (12 : Nat) (0 : Int) = List.getD d (12 : Nat) (0 : Int) ∧ List.getD (shaF (List.flatten [[(5
  : Int)], [(↑(115 : Nat) : Int), (↑(116 : Nat) : Int), (↑(97 : Nat) : Int), (↑(99 : Nat) : Int), (↑(107 : Nat) : Int)], Prod.fst (encodeF (Val.mk (Val.k v) (Val.n v) (Val.b v)
  (Val.l v)))])) (13 : Nat) (0 : Int) = List.getD d (13 : Nat) (0 : Int) ∧ List.getD (shaF (List.flatten [[(5 : Int)], [(↑(115 : Nat) : Int), (↑(116 : Nat) : Int), (↑(97 : Nat) :
  Int), (↑(99 : Nat) : Int), (↑(107 : Nat) : Int)], Prod.fst (encodeF (Val.mk (Val.k v) (Val.n v) (Val.b v) (Val.l v)))])) (14 : Nat) (0 : Int) = List.getD d (14 : Nat) (0 : Int) ∧
  List.getD (shaF (List.flatten [[(5 : Int)], [(↑(115 : Nat) : Int), (↑(116 : Nat) : Int), (↑(97 : Nat) : Int), (↑(99 : Nat) : Int), (↑(107 : Nat) : Int)], Prod.fst (encodeF (Val.mk
  (Val.k v) (Val.n v) (Val.b v) (Val.l v)))])) (15 : Nat) (0 : Int) = List.getD d (15 : Nat) (0 : Int) ∧ List.getD (shaF (List.flatten [[(5 : Int)], [(↑(115 : Nat) : Int), (↑(116 :
  Nat) : Int), (↑(97 : Nat) : Int), (↑(99 : Nat) : Int), (↑(107 : Nat) : Int)], Prod.fst (encodeF (Val.mk (Val.k v) (Val.n v) (Val.b v) (Val.l v)))])) (16 : Nat) (0 : Int) =
  List.getD d (16 : Nat) (0 : Int) ∧ List.getD (shaF (List.flatten [[(5 : Int)], [(↑(115 : Nat) : Int), (↑(116 : Nat) : Int), (↑(97 : Nat) : Int), (↑(99 : Nat) : Int), (↑(107 : Nat)
  : Int)], Prod.fst (encodeF (Val.mk (Val.k v) (Val.n v) (Val.b v) (Val.l v)))])) (17 : Nat) (0 : Int) = List.getD d (17 : Nat) (0 : Int) ∧ List.getD (shaF (List.flatten [[(5 :
  Int)], [(↑(115 : Nat) : Int), (↑(116 : Nat) : Int), (↑(97 : Nat) : Int), (↑(99 : Nat) : Int), (↑(107 : Nat) : Int)], Prod.fst (encodeF (Val.mk (Val.k v) (Val.n v) (Val.b v) (Val.l
  v)))])) (18 : Nat) (0 : Int) = List.getD d (18 : Nat) (0 : Int) ∧ List.getD (shaF (List.flatten [[(5 : Int)], [(↑(115 : Nat) : Int), (↑(116 : Nat) : Int), (↑(97 : Nat) : Int),
  (↑(99 : Nat) : Int), (↑(107 : Nat) : Int)], Prod.fst (encodeF (Val.mk (Val.k v) (Val.n v) (Val.b v) (Val.l v)))])) (19 : Nat) (0 : Int) = List.getD d (19 : Nat) (0 : Int) ∧
  List.getD (shaF (List.flatten [[(5 : Int)], [(↑(115 : Nat) : Int), (↑(116 : Nat) : Int), (↑(97 : Nat) : Int), (↑(99 : Nat) : Int), (↑(107 : Nat) : Int)], Prod.fst (encodeF (Val.mk
  (Val.k v) (Val.n v) (Val.b v) (Val.l v)))])) (20 : Nat) (0 : Int) = List.getD d (20 : Nat) (0 : Int) ∧ List.getD (shaF (List.flatten [[(5 : Int)], [(↑(115 : Nat) : Int), (↑(116 :
  Nat) : Int), (↑(97 : Nat) : Int), (↑(99 : Nat) : Int), (↑(107 : Nat) : Int)], Prod.fst (encodeF (Val.mk (Val.k v) (Val.n v) (Val.b v) (Val.l v)))])) (21 : Nat) (0 : Int) =
  List.getD d (21 : Nat) (0 : Int) ∧ List.getD (shaF (List.flatten [[(5 : Int)], [(↑(115 : Nat) : Int), (↑(116 : Nat) : Int), (↑(97 : Nat) : Int), (↑(99 : Nat) : Int), (↑(107 : Nat)
  : Int)], Prod.fst (encodeF (Val.mk (Val.k v) (Val.n v) (Val.b v) (Val.l v)))])) (22 : Nat) (0 : Int) = List.getD d (22 : Nat) (0 : Int) ∧ List.getD (shaF (List.flatten [[(5 :
  Int)], [(↑(115 : Nat) : Int), (↑(116 : Nat) : Int), (↑(97 : Nat) : Int), (↑(99 : Nat) : Int), (↑(107 : Nat) : Int)], Prod.fst (encodeF (Val.mk (Val.k v) (Val.n v) (Val.b v) (Val.l
  v)))])) (23 : Nat) (0 : Int) = List.getD d (23 : Nat) (0 : Int) ∧ List.getD (shaF (List.flatten [[(5 : Int)], [(↑(115 : Nat) : Int), (↑(116 : Nat) : Int), (↑(97 : Nat) : Int),
  (↑(99 : Nat) : Int), (↑(107 : Nat) : Int)], Prod.fst (encodeF (Val.mk (Val.k v) (Val.n v) (Val.b v) (Val.l v)))])) (24 : Nat) (0 : Int) = List.getD d (24 : Nat) (0 : Int) ∧
  List.getD (shaF (List.flatten [[(5 : Int)], [(↑(115 : Nat) : Int), (↑(116 : Nat) : Int), (↑(97 : Nat) : Int), (↑(99 : Nat) : Int), (↑(107 : Nat) : Int)], Prod.fst (encodeF (Val.mk
  (Val.k v) (Val.n v) (Val.b v) (Val.l v)))])) (25 : Nat) (0 : Int) = List.getD d (25 : Nat) (0 : Int) ∧ List.getD (shaF (List.flatten [[(5 : Int)], [(↑(115 : Nat) : Int), (↑(116 :
  Nat) : Int), (↑(97 : Nat) : Int), (↑(99 : Nat) : Int), (↑(107 : Nat) : Int)], Prod.fst (encodeF (Val.mk (Val.k v) (Val.n v) (Val.b v) (Val.l v)))])) (26 : Nat) (0 : Int) =
  List.getD d (26 : Nat) (0 : Int) ∧ List.getD (shaF (List.flatten [[(5 : Int)], [(↑(115 : Nat) : Int), (↑(116 : Nat) : Int), (↑(97 : Nat) : Int), (↑(99 : Nat) : Int), (↑(107 : Nat)
  : Int)], Prod.fst (encodeF (Val.mk (Val.k v) (Val.n v) (Val.b v) (Val.l v)))])) (27 : Nat) (0 : Int) = List.getD d (27 : Nat) (0 : Int) ∧ List.getD (shaF (List.flatten [[(5 :
  Int)], [(↑(115 : Nat) : Int), (↑(116 : Nat) : Int), (↑(97 : Nat) : Int), (↑(99 : Nat) : Int), (↑(107 : Nat) : Int)], Prod.fst (encodeF (Val.mk (Val.k v) (Val.n v) (Val.b v) (Val.l
  v)))])) (28 : Nat) (0 : Int) = List.getD d (28 : Nat) (0 : Int) ∧ List.getD (shaF (List.flatten [[(5 : Int)], [(↑(115 : Nat) : Int), (↑(116 : Nat) : Int), (↑(97 : Nat) : Int),
  (↑(99 : Nat) : Int), (↑(107 : Nat) : Int)], Prod.fst (encodeF (Val.mk (Val.k v) (Val.n v) (Val.b v) (Val.l v)))])) (29 : Nat) (0 : Int) = List.getD d (29 : Nat) (0 : Int) ∧
  List.getD (shaF (List.flatten [[(5 : Int)], [(↑(115 : Nat) : Int), (↑(116 : Nat) : Int), (↑(97 : Nat) : Int), (↑(99 : Nat) : Int), (↑(107 : Nat) : Int)], Prod.fst (encodeF (Val.mk
  (Val.k v) (Val.n v) (Val.b v) (Val.l v)))])) (30 : Nat) (0 : Int) = List.getD d (30 : Nat) (0 : Int) ∧ List.getD (shaF (List.flatten [[(5 : Int)], [(↑(115 : Nat) : Int), (↑(116 :
  Nat) : Int), (↑(97 : Nat) : Int), (↑(99 : Nat) : Int), (↑(107 : Nat) : Int)], Prod.fst (encodeF (Val.mk (Val.k v) (Val.n v) (Val.b v) (Val.l v)))])) (31 : Nat) (0 : Int) =
  List.getD d (31 : Nat) (0 : Int) ∧ True
  ) := by kernel_rfl
--@end
--@cond hash1 | 35 | E2:Fdig | 400 | (v : Val) | [.str true ⟨#[112, 114, 111, 103, 114, 97, 109]⟩, .agg (encF false .vals v)] | (d : List Int) | dig32 d
theorem cond_hash1 (v : Val) (d : List Int) : callF E2 Fdig (vc E2 Fdig 400) 35 [.str true ⟨#[112, 114, 111, 103, 114, 97, 109]⟩, .agg (encF false .vals v)] hp0 0 (fun r => ret E2 (patch hp0 0 r) r.v (dig32 d)) = (
  OkV (Val.mk (Val.k v) (Val.n v) (Val.b v) (Val.l v)) ∧ PartsOk [[(7 : Int)], [(↑(112 : Nat) : Int), (↑(114 : Nat) : Int), (↑(111 : Nat) : Int), (↑(103 : Nat) : Int), (↑(114 : Nat)
  : Int), (↑(97 : Nat) : Int), (↑(109 : Nat) : Int)], Prod.fst (encodeF (Val.mk (Val.k v) (Val.n v) (Val.b v) (Val.l v)))] ∧ List.getD (shaF (List.flatten [[(7 : Int)], [(↑(112 :
  Nat) : Int), (↑(114 : Nat) : Int), (↑(111 : Nat) : Int), (↑(103 : Nat) : Int), (↑(114 : Nat) : Int), (↑(97 : Nat) : Int), (↑(109 : Nat) : Int)], Prod.fst (encodeF (Val.mk (Val.k v)
  (Val.n v) (Val.b v) (Val.l v)))])) (0 : Nat) (0 : Int) = List.getD d (0 : Nat) (0 : Int) ∧ List.getD (shaF (List.flatten [[(7 : Int)], [(↑(112 : Nat) : Int), (↑(114 : Nat) : Int),
  (↑(111 : Nat) : Int), (↑(103 : Nat) : Int), (↑(114 : Nat) : Int), (↑(97 : Nat) : Int), (↑(109 : Nat) : Int)], Prod.fst (encodeF (Val.mk (Val.k v) (Val.n v) (Val.b v) (Val.l v)))]))
  (1 : Nat) (0 : Int) = List.getD d (1 : Nat) (0 : Int) ∧ List.getD (shaF (List.flatten [[(7 : Int)], [(↑(112 : Nat) : Int), (↑(114 : Nat) : Int), (↑(111 : Nat) : Int), (↑(103 : Nat)
  : Int), (↑(114 : Nat) : Int), (↑(97 : Nat) : Int), (↑(109 : Nat) : Int)], Prod.fst (encodeF (Val.mk (Val.k v) (Val.n v) (Val.b v) (Val.l v)))])) (2 : Nat) (0 : Int) = List.getD d
  (2 : Nat) (0 : Int) ∧ List.getD (shaF (List.flatten [[(7 : Int)], [(↑(112 : Nat) : Int), (↑(114 : Nat) : Int), (↑(111 : Nat) : Int), (↑(103 : Nat) : Int), (↑(114 : Nat) : Int),
  (↑(97 : Nat) : Int), (↑(109 : Nat) : Int)], Prod.fst (encodeF (Val.mk (Val.k v) (Val.n v) (Val.b v) (Val.l v)))])) (3 : Nat) (0 : Int) = List.getD d (3 : Nat) (0 : Int) ∧ List.getD
  (shaF (List.flatten [[(7 : Int)], [(↑(112 : Nat) : Int), (↑(114 : Nat) : Int), (↑(111 : Nat) : Int), (↑(103 : Nat) : Int), (↑(114 : Nat) : Int), (↑(97 : Nat) : Int), (↑(109 : Nat)
  : Int)], Prod.fst (encodeF (Val.mk (Val.k v) (Val.n v) (Val.b v) (Val.l v)))])) (4 : Nat) (0 : Int) = List.getD d (4 : Nat) (0 : Int) ∧ List.getD (shaF (List.flatten [[(7 : Int)],
  [(↑(112 : Nat) : Int), (↑(114 : Nat) : Int), (↑(111 : Nat) : Int), (↑(103 : Nat) : Int), (↑(114 : Nat) : Int), (↑(97 : Nat) : Int), (↑(109 : Nat) : Int)], Prod.fst (encodeF (Val.mk
  (Val.k v) (Val.n v) (Val.b v) (Val.l v)))])) (5 : Nat) (0 : Int) = List.getD d (5 : Nat) (0 : Int) ∧ List.getD (shaF (List.flatten [[(7 : Int)], [(↑(112 : Nat) : Int), (↑(114 :
  Nat) : Int), (↑(111 : Nat) : Int), (↑(103 : Nat) : Int), (↑(114 : Nat) : Int), (↑(97 : Nat) : Int), (↑(109 : Nat) : Int)], Prod.fst (encodeF (Val.mk (Val.k v) (Val.n v) (Val.b v)
  (Val.l v)))])) (6 : Nat) (0 : Int) = List.getD d (6 : Nat) (0 : Int) ∧ List.getD (shaF (List.flatten [[(7 : Int)], [(↑(112 : Nat) : Int), (↑(114 : Nat) : Int), (↑(111 : Nat) :
  Int), (↑(103 : Nat) : Int), (↑(114 : Nat) : Int), (↑(97 : Nat) : Int), (↑(109 : Nat) : Int)], Prod.fst (encodeF (Val.mk (Val.k v) (Val.n v) (Val.b v) (Val.l v)))])) (7 : Nat) (0 :
  Int) = List.getD d (7 : Nat) (0 : Int) ∧ List.getD (shaF (List.flatten [[(7 : Int)], [(↑(112 : Nat) : Int), (↑(114 : Nat) : Int), (↑(111 : Nat) : Int), (↑(103 : Nat) : Int), (↑(114
  : Nat) : Int), (↑(97 : Nat) : Int), (↑(109 : Nat) : Int)], Prod.fst (encodeF (Val.mk (Val.k v) (Val.n v) (Val.b v) (Val.l v)))])) (8 : Nat) (0 : Int) = List.getD d (8 : Nat) (0 :
  Int) ∧ List.getD (shaF (List.flatten [[(7 : Int)], [(↑(112 : Nat) : Int), (↑(114 : Nat) : Int), (↑(111 : Nat) : Int), (↑(103 : Nat) : Int), (↑(114 : Nat) : Int), (↑(97 : Nat) :
  Int), (↑(109 : Nat) : Int)], Prod.fst (encodeF (Val.mk (Val.k v) (Val.n v) (Val.b v) (Val.l v)))])) (9 : Nat) (0 : Int) = List.getD d (9 : Nat) (0 : Int) ∧ List.getD (shaF
  (List.flatten [[(7 : Int)], [(↑(112 : Nat) : Int), (↑(114 : Nat) : Int), (↑(111 : Nat) : Int), (↑(103 : Nat) : Int), (↑(114 : Nat) : Int), (↑(97 : Nat) : Int), (↑(109 : Nat) :
  Int)], Prod.fst (encodeF (Val.mk (Val.k v) (Val.n v) (Val.b v) (Val.l v)))])) (10 : Nat) (0 : Int) = List.getD d (10 : Nat) (0 : Int) ∧ List.getD (shaF (List.flatten [[(7 : Int)],
  [(↑(112 : Nat) : Int), (↑(114 : Nat) : Int), (↑(111 : Nat) : Int), (↑(103 : Nat) : Int), (↑(114 : Nat) : Int), (↑(97 : Nat) : Int), (↑(109 : Nat) : Int)], Prod.fst (encodeF (Val.mk
  (Val.k v) (Val.n v) (Val.b v) (Val.l v)))])) (11 : Nat) (0 : Int) = List.getD d (11 : Nat) (0 : Int) ∧ List.getD (shaF (List.flatten [[(7 : Int)], [(↑(112 : Nat) : Int), (↑(114 :
  Nat) : Int), (↑(111 : Nat) : Int), (↑(103 : Nat) : Int), (↑(114 : Nat) : Int), (↑(97 : Nat) : Int), (↑(109 : Nat) : Int)], Prod.fst (encodeF (Val.mk (Val.k v) (Val.n v) (Val.b v)
  (Val.l v)))])) (12 : Nat) (0 : Int) = List.getD d (12 : Nat) (0 : Int) ∧ List.getD (shaF (List.flatten [[(7 : Int)], [(↑(112 : Nat) : Int), (↑(114 : Nat) : Int), (↑(111 : Nat) :
  Int), (↑(103 : Nat) : Int), (↑(114 : Nat) : Int), (↑(97 : Nat) : Int), (↑(109 : Nat) : Int)], Prod.fst (encodeF (Val.mk (Val.k v) (Val.n v) (Val.b v) (Val.l v)))])) (13 : Nat) (0 :
  Int) = List.getD d (13 : Nat) (0 : Int) ∧ List.getD (shaF (List.flatten [[(7 : Int)], [(↑(112 : Nat) : Int), (↑(114 : Nat) : Int), (↑(111 : Nat) : Int), (↑(103 : Nat) : Int),
  (↑(114 : Nat) : Int), (↑(97 : Nat) : Int), (↑(109 : Nat) : Int)], Prod.fst (encodeF (Val.mk (Val.k v) (Val.n v) (Val.b v) (Val.l v)))])) (14 : Nat) (0 : Int) = List.getD d (14 :
  Nat) (0 : Int) ∧ List.getD (shaF (List.flatten [[(7 : Int)], [(↑(112 : Nat) : Int), (↑(114 : Nat) : Int), (↑(111 : Nat) : Int), (↑(103 : Nat) : Int), (↑(114 : Nat) : Int), (↑(97 :
  Nat) : Int), (↑(109 : Nat) : Int)], Prod.fst (encodeF (Val.mk (Val.k v) (Val.n v) (Val.b v) (Val.l v)))])) (15 : Nat) (0 : Int) = List.getD d (15 : Nat) (0 : Int) ∧ List.getD (shaF
  (List.flatten [[(7 : Int)], [(↑(112 : Nat) : Int), (↑(114 : Nat) : Int), (↑(111 : Nat) : Int), (↑(103 : Nat) : Int), (↑(114 : Nat) : Int), (↑(97 : Nat) : Int), (↑(109 : Nat) :
  Int)], Prod.fst (encodeF (Val.mk (Val.k v) (Val.n v) (Val.b v) (Val.l v)))])) (16 : Nat) (0 : Int) = List.getD d (16 : Nat) (0 : Int) ∧ List.getD (shaF (List.flatten [[(7 : Int)],
  [(↑(112 : Nat) : Int), (↑(114 : Nat) : Int), (↑(111 : Nat) : Int), (↑(103 : Nat) : Int), (↑(114 : Nat) : Int), (↑(97 : Nat) : Int), (↑(109 : Nat) : Int)], Prod.fst (encodeF (Val.mk
  (Val.k v) (Val.n v) (Val.b v) (Val.l v)))])) (17 : Nat) (0 : Int) = List.getD d (17 : Nat) (0 : Int) ∧ List.getD (shaF (List.flatten [[(7 : Int)], [(↑(112 : Nat) : Int), (↑(114 :
  Nat) : Int), (↑(111 : Nat) : Int), (↑(103 : Nat) : Int), (↑(114 : Nat) : Int), (↑(97 : Nat) : Int), (↑(109 : Nat) : Int)], Prod.fst (encodeF (Val.mk (Val.k v) (Val.n v) (Val.b v)
  (Val.l v)))])) (18 : Nat) (0 : Int) = List.getD d (18 : Nat) (0 : Int) ∧ List.getD (shaF (List.flatten [[(7 : Int)], [(↑(112 : Nat) : Int), (↑(114 : Nat) : Int), (↑(111 : Nat) :
  Int), (↑(103 : Nat) : Int), (↑(114 : Nat) : Int), (↑(97 : Nat) : Int), (↑(109 : Nat) : Int)], Prod.fst (encodeF (Val.mk (Val.k v) (Val.n v) (Val.b v) (Val.l v)))])) (19 : Nat) (0 :
  Int) = List.getD d (19 : Nat) (0 : Int) ∧ List.getD (shaF (List.flatten [[(7 : Int)], [(↑(112 : Nat) : Int), (↑(114 : Nat) : Int), (↑(111 : Nat) : Int), (↑(103 : Nat) : Int),
  (↑(114 : Nat) : Int), (↑(97 : Nat) : Int), (↑(109 : Nat) : Int)], Prod.fst (encodeF (Val.mk (Val.k v) (Val.n v) (Val.b v) (Val.l v)))])) (20 : Nat) (0 : Int) = List.getD d (20 :
  Nat) (0 : Int) ∧ List.getD (shaF (List.flatten [[(7 : Int)], [(↑(112 : Nat) : Int), (↑(114 : Nat) : Int), (↑(111 : Nat) : Int), (↑(103 : Nat) : Int), (↑(114 : Nat) : Int), (↑(97 :
  Nat) : Int), (↑(109 : Nat) : Int)], Prod.fst (encodeF (Val.mk (Val.k v) (Val.n v) (Val.b v) (Val.l v)))])) (21 : Nat) (0 : Int) = List.getD d (21 : Nat) (0 : Int) ∧ List.getD (shaF
  (List.flatten [[(7 : Int)], [(↑(112 : Nat) : Int), (↑(114 : Nat) : Int), (↑(111 : Nat) : Int), (↑(103 : Nat) : Int), (↑(114 : Nat) : Int), (↑(97 : Nat) : Int), (↑(109 : Nat) :
  Int)], Prod.fst (encodeF (Val.mk (Val.k v) (Val.n v) (Val.b v) (Val.l v)))])) (22 : Nat) (0 : Int) = List.getD d (22 : Nat) (0 : Int) ∧ List.getD (shaF (List.flatten [[(7 : Int)],
  [(↑(112 : Nat) : Int), (↑(114 : Nat) : Int), (↑(111 : Nat) : Int), (↑(103 : Nat) : Int), (↑(114 : Nat) : Int), (↑(97 : Nat) : Int), (↑(109 : Nat) : Int)], Prod.fst (encodeF (Val.mk
  (Val.k v) (Val.n v) (Val.b v) (Val.l v)))])) (23 : Nat) (0 : Int) = List.getD d (23 : Nat) (0 : Int) ∧ List.getD (shaF (List.flatten [[(7 : Int)], [(↑(112 : Nat) : Int), (↑(114 :
  Nat) : Int), (↑(111 : Nat) : Int), (↑(103 : Nat) : Int), (↑(114 : Nat) : Int), (↑(97 : Nat) : Int), (↑(109 : Nat) : Int)], Prod.fst (encodeF (Val.mk (Val.k v) (Val.n v) (Val.b v)
  (Val.l v)))])) (24 : Nat) (0 : Int) = List.getD d (24 : Nat) (0 : Int) ∧ List.getD (shaF (List.flatten [[(7 : Int)], [(↑(112 : Nat) : Int), (↑(114 : Nat) : Int), (↑(111 : Nat) :
  Int), (↑(103 : Nat) : Int), (↑(114 : Nat) : Int), (↑(97 : Nat) : Int), (↑(109 : Nat) : Int)], Prod.fst (encodeF (Val.mk (Val.k v) (Val.n v) (Val.b v) (Val.l v)))])) (25 : Nat) (0 :
  Int) = List.getD d (25 : Nat) (0 : Int) ∧ List.getD (shaF (List.flatten [[(7 : Int)], [(↑(112 : Nat) : Int), (↑(114 : Nat) : Int), (↑(111 : Nat) : Int), (↑(103 : Nat) : Int),
  (↑(114 : Nat) : Int), (↑(97 : Nat) : Int), (↑(109 : Nat) : Int)], Prod.fst (encodeF (Val.mk (Val.k v) (Val.n v) (Val.b v) (Val.l v)))])) (26 : Nat) (0 : Int) = List.getD d (26 :
  Nat) (0 : Int) ∧ List.getD (shaF (List.flatten [[(7 : Int)], [(↑(112 : Nat) : Int), (↑(114 : Nat) : Int), (↑(111 : Nat) : Int), (↑(103 : Nat) : Int), (↑(114 : Nat) : Int), (↑(97 :
  Nat) : Int), (↑(109 : Nat) : Int)], Prod.fst (encodeF (Val.mk (Val.k v) (Val.n v) (Val.b v) (Val.l v)))])) (27 : Nat) (0 : Int) = List.getD d (27 : Nat) (0 : Int) ∧ List.getD (shaF
  (List.flatten [[(7 : Int)], [(↑(112 : Nat) : Int), (↑(114 : Nat) : Int), (↑(111 : Nat) : Int), (↑(103 : Nat) : Int), (↑(114 : Nat) : Int), (↑(97 : Nat) : Int), (↑(109 : Nat) :
  Int)], Prod.fst (encodeF (Val.mk (Val.k v) (Val.n v) (Val.b v) (Val.l v)))])) (28 : Nat) (0 : Int) = List.getD d (28 : Nat) (0 : Int) ∧ List.getD (shaF (List.flatten [[(7 : Int)],
  [(↑(112 : Nat) : Int), (↑(114 : Nat) : Int), (↑(111 : Nat) : Int), (↑(103 : Nat) : Int), (↑(114 : Nat) : Int), (↑(97 : Nat) : Int), (↑(109 : Nat) : Int)], Prod.fst (encodeF (Val.mk
  (Val.k v) (Val.n v) (Val.b v) (Val.l v)))])) (29 : Nat) (0 : Int) = List.getD d (29 : Nat) (0 : Int) ∧ List.getD (shaF (List.flatten [[(7 : Int)], [(↑(112 : Nat) : Int), (↑(114 :
  Nat) : Int), (↑(111 : Nat) : Int), (↑(103 : Nat) : Int), (↑(114 : Nat) : Int), (↑(97 : Nat) : Int), (↑(109 : Nat) : Int)], Prod.fst (encodeF (Val.mk (Val.k v) (Val.n v) (Val.b v)
  (Val.l v)))])) (30 : Nat) (0 : Int) = List.getD d (30 : Nat) (0 : Int) ∧ List.getD (shaF (List.flatten [[(7 : Int)], [(↑(112 : Nat) : Int), (↑(114 : Nat) : Int), (↑(111 : Nat) :
  Int), (↑(103 : Nat) : Int), (↑(114 : Nat) : Int), (↑(97 : Nat) : Int), (↑(109 : Nat) : Int)], Prod.fst (encodeF (Val.mk (Val.k v) (Val.n v) (Val.b v) (Val.l v)))])) (31 : Nat) (0 :
  Int) = List.getD d (31 : Nat) (0 : Int) ∧ True
  ) := by kernel_rfl
--@end
--@cond hash2 | 35 | E2:Fdig | 400 | (v : Val) | [.str true ⟨#[105, 110, 112, 117, 116, 115]⟩, .agg (encF false .vals v)] | (d : List Int) | dig32 d
theorem cond_hash2 (v : Val) (d : List Int) : callF E2 Fdig (vc E2 Fdig 400) 35 [.str true ⟨#[105, 110, 112, 117, 116, 115]⟩, .agg (encF false .vals v)] hp0 0 (fun r => ret E2 (patch hp0 0 r) r.v (dig32 d)) = (
  OkV (Val.mk (Val.k v) (Val.n v) (Val.b v) (Val.l v)) ∧ PartsOk [[(6 : Int)], [(↑(105 : Nat) : Int), (↑(110 : Nat) : Int), (↑(112 : Nat) : Int), (↑(117 : Nat) : Int), (↑(116 : Nat)
  : Int), (↑(115 : Nat) : Int)], Prod.fst (encodeF (Val.mk (Val.k v) (Val.n v) (Val.b v) (Val.l v)))] ∧ List.getD (shaF (List.flatten [[(6 : Int)], [(↑(105 : Nat) : Int), (↑(110 :
  Nat) : Int), (↑(112 : Nat) : Int), (↑(117 : Nat) : Int), (↑(116 : Nat) : Int), (↑(115 : Nat) : Int)], Prod.fst (encodeF (Val.mk (Val.k v) (Val.n v) (Val.b v) (Val.l v)))])) (0 :
  Nat) (0 : Int) = List.getD d (0 : Nat) (0 : Int) ∧ List.getD (shaF (List.flatten [[(6 : Int)], [(↑(105 : Nat) : Int), (↑(110 : Nat) : Int), (↑(112 : Nat) : Int), (↑(117 : Nat) :
  Int), (↑(116 : Nat) : Int), (↑(115 : Nat) : Int)], Prod.fst (encodeF (Val.mk (Val.k v) (Val.n v) (Val.b v) (Val.l v)))])) (1 : Nat) (0 : Int) = List.getD d (1 : Nat) (0 : Int) ∧
  List.getD (shaF (List.flatten [[(6 : Int)], [(↑(105 : Nat) : Int), (↑(110 : Nat) : Int), (↑(112 : Nat) : Int), (↑(117 : Nat) : Int), (↑(116 : Nat) : Int), (↑(115 : Nat) : Int)],
  Prod.fst (encodeF (Val.mk (Val.k v) (Val.n v) (Val.b v) (Val.l v)))])) (2 : Nat) (0 : Int) = List.getD d (2 : Nat) (0 : Int) ∧ List.getD (shaF (List.flatten [[(6 : Int)], [(↑(105 :
  Nat) : Int), (↑(110 : Nat) : Int), (↑(112 : Nat) : Int), (↑(117 : Nat) : Int), (↑(116 : Nat) : Int), (↑(115 : Nat) : Int)], Prod.fst (encodeF (Val.mk (Val.k v) (Val.n v) (Val.b v)
  (Val.l v)))])) (3 : Nat) (0 : Int) = List.getD d (3 : Nat) (0 : Int) ∧ List.getD (shaF (List.flatten [[(6 : Int)], [(↑(105 : Nat) : Int), (↑(110 : Nat) : Int), (↑(112 : Nat) :
  Int), (↑(117 : Nat) : Int), (↑(116 : Nat) : Int), (↑(115 : Nat) : Int)], Prod.fst (encodeF (Val.mk (Val.k v) (Val.n v) (Val.b v) (Val.l v)))])) (4 : Nat) (0 : Int) = List.getD d (4
  : Nat) (0 : Int) ∧ List.getD (shaF (List.flatten [[(6 : Int)], [(↑(105 : Nat) : Int), (↑(110 : Nat) : Int), (↑(112 : Nat) : Int), (↑(117 : Nat) : Int), (↑(116 : Nat) : Int), (↑(115
  : Nat) : Int)], Prod.fst (encodeF (Val.mk (Val.k v) (Val.n v) (Val.b v) (Val.l v)))])) (5 : Nat) (0 : Int) = List.getD d (5 : Nat) (0 : Int) ∧ List.getD (shaF (List.flatten [[(6 :
  Int)], [(↑(105 : Nat) : Int), (↑(110 : Nat) : Int), (↑(112 : Nat) : Int), (↑(117 : Nat) : Int), (↑(116 : Nat) : Int), (↑(115 : Nat) : Int)], Prod.fst (encodeF (Val.mk (Val.k v)
  (Val.n v) (Val.b v) (Val.l v)))])) (6 : Nat) (0 : Int) = List.getD d (6 : Nat) (0 : Int) ∧ List.getD (shaF (List.flatten [[(6 : Int)], [(↑(105 : Nat) : Int), (↑(110 : Nat) : Int),
  (↑(112 : Nat) : Int), (↑(117 : Nat) : Int), (↑(116 : Nat) : Int), (↑(115 : Nat) : Int)], Prod.fst (encodeF (Val.mk (Val.k v) (Val.n v) (Val.b v) (Val.l v)))])) (7 : Nat) (0 : Int)
  = List.getD d (7 : Nat) (0 : Int) ∧ List.getD (shaF (List.flatten [[(6 : Int)], [(↑(105 : Nat) : Int), (↑(110 : Nat) : Int), (↑(112 : Nat) : Int), (↑(117 : Nat) : Int), (↑(116 :
  Nat) : Int), (↑(115 : Nat) : Int)], Prod.fst (encodeF (Val.mk (Val.k v) (Val.n v) (Val.b v) (Val.l v)))])) (8 : Nat) (0 : Int) = List.getD d (8 : Nat) (0 : Int) ∧ List.getD (shaF
  (List.flatten [[(6 : Int)], [(↑(105 : Nat) : Int), (↑(110 : Nat) : Int), (↑(112 : Nat) : Int), (↑(117 : Nat) : Int), (↑(116 : Nat) : Int), (↑(115 : Nat) : Int)], Prod.fst (encodeF
  (Val.mk (Val.k v) (Val.n v) (Val.b v) (Val.l v)))])) (9 : Nat) (0 : Int) = List.getD d (9 : Nat) (0 : Int) ∧ List.getD (shaF (List.flatten [[(6 : Int)], [(↑(105 : Nat) : Int),
  (↑(110 : Nat) : Int), (↑(112 : Nat) : Int), (↑(117 : Nat) : Int), (↑(116 : Nat) : Int), (↑(115 : Nat) : Int)], Prod.fst (encodeF (Val.mk (Val.k v) (Val.n v) (Val.b v) (Val.l
  v)))])) (10 : Nat) (0 : Int) = List.getD d (10 : Nat) (0 : Int) ∧ List.getD (shaF (List.flatten [[(6 : Int)], [(↑(105 : Nat) : Int), (↑(110 : Nat) : Int), (↑(112 : Nat) : Int),
  (↑(117 : Nat) : Int), (↑(116 : Nat) : Int), (↑(115 : Nat) : Int)], Prod.fst (encodeF (Val.mk (Val.k v) (Val.n v) (Val.b v) (Val.l v)))])) (11 : Nat) (0 : Int) = List.getD d (11 :
  Nat) (0 : Int) ∧ List.getD (shaF (List.flatten [[(6 : Int)], [(↑(105 : Nat) : Int), (↑(110 : Nat) : Int), (↑(112 : Nat) : Int), (↑(117 : Nat) : Int), (↑(116 : Nat) : Int), (↑(115 :
  Nat) : Int)], Prod.fst (encodeF (Val.mk (Val.k v) (Val.n v) (Val.b v) (Val.l v)))])) (12 : Nat) (0 : Int) = List.getD d (12 : Nat) (0 : Int) ∧ List.getD (shaF (List.flatten [[(6 :
  Int)], [(↑(105 : Nat) : Int), (↑(110 : Nat) : Int), (↑(112 : Nat) : Int), (↑(117 : Nat) : Int), (↑(116 : Nat) : Int), (↑(115 : Nat) : Int)], Prod.fst (encodeF (Val.mk (Val.k v)
  (Val.n v) (Val.b v) (Val.l v)))])) (13 : Nat) (0 : Int) = List.getD d (13 : Nat) (0 : Int) ∧ List.getD (shaF (List.flatten [[(6 : Int)], [(↑(105 : Nat) : Int), (↑(110 : Nat) :
  Int), (↑(112 : Nat) : Int), (↑(117 : Nat) : Int), (↑(116 : Nat) : Int), (↑(115 : Nat) : Int)], Prod.fst (encodeF (Val.mk (Val.k v) (Val.n v) (Val.b v) (Val.l v)))])) (14 : Nat) (0
  : Int) = List.getD d (14 : Nat) (0 : Int) ∧ List.getD (shaF (List.flatten [[(6 : Int)], [(↑(105 : Nat) : Int), (↑(110 : Nat) : Int), (↑(112 : Nat) : Int), (↑(117 : Nat) : Int),
  (↑(116 : Nat) : Int), (↑(115 : Nat) : Int)], Prod.fst (encodeF (Val.mk (Val.k v) (Val.n v) (Val.b v) (Val.l v)))])) (15 : Nat) (0 : Int) = List.getD d (15 : Nat) (0 : Int) ∧
  List.getD (shaF (List.flatten [[(6 : Int)], [(↑(105 : Nat) : Int), (↑(110 : Nat) : Int), (↑(112 : Nat) : Int), (↑(117 : Nat) : Int), (↑(116 : Nat) : Int), (↑(115 : Nat) : Int)],
  Prod.fst (encodeF (Val.mk (Val.k v) (Val.n v) (Val.b v) (Val.l v)))])) (16 : Nat) (0 : Int) = List.getD d (16 : Nat) (0 : Int) ∧ List.getD (shaF (List.flatten [[(6 : Int)], [(↑(105
  : Nat) : Int), (↑(110 : Nat) : Int), (↑(112 : Nat) : Int), (↑(117 : Nat) : Int), (↑(116 : Nat) : Int), (↑(115 : Nat) : Int)], Prod.fst (encodeF (Val.mk (Val.k v) (Val.n v) (Val.b
  v) (Val.l v)))])) (17 : Nat) (0 : Int) = List.getD d (17 : Nat) (0 : Int) ∧ List.getD (shaF (List.flatten [[(6 : Int)], [(↑(105 : Nat) : Int), (↑(110 : Nat) : Int), (↑(112 : Nat) :
  Int), (↑(117 : Nat) : Int), (↑(116 : Nat) : Int), (↑(115 : Nat) : Int)], Prod.fst (encodeF (Val.mk (Val.k v) (Val.n v) (Val.b v) (Val.l v)))])) (18 : Nat) (0 : Int) = List.getD d
  (18 : Nat) (0 : Int) ∧ List.getD (shaF (List.flatten [[(6 : Int)], [(↑(105 : Nat) : Int), (↑(110 : Nat) : Int), (↑(112 : Nat) : Int), (↑(117 : Nat) : Int), (↑(116 : Nat) : Int),
  (↑(115 : Nat) : Int)], Prod.fst (encodeF (Val.mk (Val.k v) (Val.n v) (Val.b v) (Val.l v)))])) (19 : Nat) (0 : Int) = List.getD d (19 : Nat) (0 : Int) ∧ List.getD (shaF
  (List.flatten [[(6 : Int)], [(↑(105 : Nat) : Int), (↑(110 : Nat) : Int), (↑(112 : Nat) : Int), (↑(117 : Nat) : Int), (↑(116 : Nat) : Int), (↑(115 : Nat) : Int)], Prod.fst (encodeF
  (Val.mk (Val.k v) (Val.n v) (Val.b v) (Val.l v)))])) (20 : Nat) (0 : Int) = List.getD d (20 : Nat) (0 : Int) ∧ List.getD (shaF (List.flatten [[(6 : Int)], [(↑(105 : Nat) : Int),
  (↑(110 : Nat) : Int), (↑(112 : Nat) : Int), (↑(117 : Nat) : Int), (↑(116 : Nat) : Int), (↑(115 : Nat) : Int)], Prod.fst (encodeF (Val.mk (Val.k v) (Val.n v) (Val.b v) (Val.l
  v)))])) (21 : Nat) (0 : Int) = List.getD d (21 : Nat) (0 : Int) ∧ List.getD (shaF (List.flatten [[(6 : Int)], [(↑(105 : Nat) : Int), (↑(110 : Nat) : Int), (↑(112 : Nat) : Int),
  (↑(117 : Nat) : Int), (↑(116 : Nat) : Int), (↑(115 : Nat) : Int)], Prod.fst (encodeF (Val.mk (Val.k v) (Val.n v) (Val.b v) (Val.l v)))])) (22 : Nat) (0 : Int) = List.getD d (22 :
  Nat) (0 : Int) ∧ List.getD (shaF (List.flatten [[(6 : Int)], [(↑(105 : Nat) : Int), (↑(110 : Nat) : Int), (↑(112 : Nat) : Int), (↑(117 : Nat) : Int), (↑(116 : Nat) : Int), (↑(115 :
  Nat) : Int)], Prod.fst (encodeF (Val.mk (Val.k v) (Val.n v) (Val.b v) (Val.l v)))])) (23 : Nat) (0 : Int) = List.getD d (23 : Nat) (0 : Int) ∧ List.getD (shaF (List.flatten [[(6 :
  Int)], [(↑(105 : Nat) : Int), (↑(110 : Nat) : Int), (↑(112 : Nat) : Int), (↑(117 : Nat) : Int), (↑(116 : Nat) : Int), (↑(115 : Nat) : Int)], Prod.fst (encodeF (Val.mk (Val.k v)
  (Val.n v) (Val.b v) (Val.l v)))])) (24 : Nat) (0 : Int) = List.getD d (24 : Nat) (0 : Int) ∧ List.getD (shaF (List.flatten [[(6 : Int)], [(↑(105 : Nat) : Int), (↑(110 : Nat) :
  Int), (↑(112 : Nat) : Int), (↑(117 : Nat) : Int), (↑(116 : Nat) : Int), (↑(115 : Nat) : Int)], Prod.fst (encodeF (Val.mk (Val.k v) (Val.n v) (Val.b v) (Val.l v)))])) (25 : Nat) (0
  : Int) = List.getD d (25 : Nat) (0 : Int) ∧ List.getD (shaF (List.flatten [[(6 : Int)], [(↑(105 : Nat) : Int), (↑(110 : Nat) : Int), (↑(112 : Nat) : Int), (↑(117 : Nat) : Int),
  (↑(116 : Nat) : Int), (↑(115 : Nat) : Int)], Prod.fst (encodeF (Val.mk (Val.k v) (Val.n v) (Val.b v) (Val.l v)))])) (26 : Nat) (0 : Int) = List.getD d (26 : Nat) (0 : Int) ∧
  List.getD (shaF (List.flatten [[(6 : Int)], [(↑(105 : Nat) : Int), (↑(110 : Nat) : Int), (↑(112 : Nat) : Int), (↑(117 : Nat) : Int), (↑(116 : Nat) : Int), (↑(115 : Nat) : Int)],
  Prod.fst (encodeF (Val.mk (Val.k v) (Val.n v) (Val.b v) (Val.l v)))])) (27 : Nat) (0 : Int) = List.getD d (27 : Nat) (0 : Int) ∧ List.getD (shaF (List.flatten [[(6 : Int)], [(↑(105
  : Nat) : Int), (↑(110 : Nat) : Int), (↑(112 : Nat) : Int), (↑(117 : Nat) : Int), (↑(116 : Nat) : Int), (↑(115 : Nat) : Int)], Prod.fst (encodeF (Val.mk (Val.k v) (Val.n v) (Val.b
  v) (Val.l v)))])) (28 : Nat) (0 : Int) = List.getD d (28 : Nat) (0 : Int) ∧ List.getD (shaF (List.flatten [[(6 : Int)], [(↑(105 : Nat) : Int), (↑(110 : Nat) : Int), (↑(112 : Nat) :
  Int), (↑(117 : Nat) : Int), (↑(116 : Nat) : Int), (↑(115 : Nat) : Int)], Prod.fst (encodeF (Val.mk (Val.k v) (Val.n v) (Val.b v) (Val.l v)))])) (29 : Nat) (0 : Int) = List.getD d
  (29 : Nat) (0 : Int) ∧ List.getD (shaF (List.flatten [[(6 : Int)], [(↑(105 : Nat) : Int), (↑(110 : Nat) : Int), (↑(112 : Nat) : Int), (↑(117 : Nat) : Int), (↑(116 : Nat) : Int),
  (↑(115 : Nat) : Int)], Prod.fst (encodeF (Val.mk (Val.k v) (Val.n v) (Val.b v) (Val.l v)))])) (30 : Nat) (0 : Int) = List.getD d (30 : Nat) (0 : Int) ∧ List.getD (shaF
  (List.flatten [[(6 : Int)], [(↑(105 : Nat) : Int), (↑(110 : Nat) : Int), (↑(112 : Nat) : Int), (↑(117 : Nat) : Int), (↑(116 : Nat) : Int), (↑(115 : Nat) : Int)], Prod.fst (encodeF
  (Val.mk (Val.k v) (Val.n v) (Val.b v) (Val.l v)))])) (31 : Nat) (0 : Int) = List.getD d (31 : Nat) (0 : Int) ∧ True
  ) := by kernel_rfl
--@end
--@cond hash3 | 35 | E2:Fdig | 400 | (v : Val) | [.str true ⟨#[115, 116, 97, 116, 101]⟩, .agg (encF false .vals v)] | (d : List Int) | dig32 d
theorem cond_hash3 (v : Val) (d : List Int) : callF E2 Fdig (vc E2 Fdig 400) 35 [.str true ⟨#[115, 116, 97, 116, 101]⟩, .agg (encF false .vals v)] hp0 0 (fun r => ret E2 (patch hp0 0 r) r.v (dig32 d)) = (
  OkV (Val.mk (Val.k v) (Val.n v) (Val.b v) (Val.l v)) ∧ PartsOk [[(5 : Int)], [(↑(115 : Nat) : Int), (↑(116 : Nat) : Int), (↑(97 : Nat) : Int), (↑(116 : Nat) : Int), (↑(101 : Nat) :
  Int)], Prod.fst (encodeF (Val.mk (Val.k v) (Val.n v) (Val.b v) (Val.l v)))] ∧ List.getD (shaF (List.flatten [[(5 : Int)], [(↑(115 : Nat) : Int), (↑(116 : Nat) : Int), (↑(97 : Nat)
  : Int), (↑(116 : Nat) : Int), (↑(101 : Nat) : Int)], Prod.fst (encodeF (Val.mk (Val.k v) (Val.n v) (Val.b v) (Val.l v)))])) (0 : Nat) (0 : Int) = List.getD d (0 : Nat) (0 : Int) ∧
  List.getD (shaF (List.flatten [[(5 : Int)], [(↑(115 : Nat) : Int), (↑(116 : Nat) : Int), (↑(97 : Nat) : Int), (↑(116 : Nat) : Int), (↑(101 : Nat) : Int)], Prod.fst (encodeF (Val.mk
  (Val.k v) (Val.n v) (Val.b v) (Val.l v)))])) (1 : Nat) (0 : Int) = List.getD d (1 : Nat) (0 : Int) ∧ List.getD (shaF (List.flatten [[(5 : Int)], [(↑(115 : Nat) : Int), (↑(116 :
  Nat) : Int), (↑(97 : Nat) : Int), (↑(116 : Nat) : Int), (↑(101 : Nat) : Int)], Prod.fst (encodeF (Val.mk (Val.k v) (Val.n v) (Val.b v) (Val.l v)))])) (2 : Nat) (0 : Int) =
  List.getD d (2 : Nat) (0 : Int) ∧ List.getD (shaF (List.flatten [[(5 : Int)], [(↑(115 : Nat) : Int), (↑(116 : Nat) : Int), (↑(97 : Nat) : Int), (↑(116 : Nat) : Int), (↑(101 : Nat)
  : Int)], Prod.fst (encodeF (Val.mk (Val.k v) (Val.n v) (Val.b v) (Val.l v)))])) (3 : Nat) (0 : Int) = List.getD d (3 : Nat) (0 : Int) ∧ List.getD (shaF (List.flatten [[(5 : Int)],
  [(↑(115 : Nat) : Int), (↑(116 : Nat) : Int), (↑(97 : Nat) : Int), (↑(116 : Nat) : Int), (↑(101 : Nat) : Int)], Prod.fst (encodeF (Val.mk (Val.k v) (Val.n v) (Val.b v) (Val.l
  v)))])) (4 : Nat) (0 : Int) = List.getD d (4 : Nat) (0 : Int) ∧ List.getD (shaF (List.flatten [[(5 : Int)], [(↑(115 : Nat) : Int), (↑(116 : Nat) : Int), (↑(97 : Nat) : Int), (↑(116
  : Nat) : Int), (↑(101 : Nat) : Int)], Prod.fst (encodeF (Val.mk (Val.k v) (Val.n v) (Val.b v) (Val.l v)))])) (5 : Nat) (0 : Int) = List.getD d (5 : Nat) (0 : Int) ∧ List.getD (shaF
  (List.flatten [[(5 : Int)], [(↑(115 : Nat) : Int), (↑(116 : Nat) : Int), (↑(97 : Nat) : Int), (↑(116 : Nat) : Int), (↑(101 : Nat) : Int)], Prod.fst (encodeF (Val.mk (Val.k v)
  (Val.n v) (Val.b v) (Val.l v)))])) (6 : Nat) (0 : Int) = List.getD d (6 : Nat) (0 : Int) ∧ List.getD (shaF (List.flatten [[(5 : Int)], [(↑(115 : Nat) : Int), (↑(116 : Nat) : Int),
  (↑(97 : Nat) : Int), (↑(116 : Nat) : Int), (↑(101 : Nat) : Int)], Prod.fst (encodeF (Val.mk (Val.k v) (Val.n v) (Val.b v) (Val.l v)))])) (7 : Nat) (0 : Int) = List.getD d (7 : Nat)
  (0 : Int) ∧ List.getD (shaF (List.flatten [[(5 : Int)], [(↑(115 : Nat) : Int), (↑(116 : Nat) : Int), (↑(97 : Nat) : Int), (↑(116 : Nat) : Int), (↑(101 : Nat) : Int)], Prod.fst
  (encodeF (Val.mk (Val.k v) (Val.n v) (Val.b v) (Val.l v)))])) (8 : Nat) (0 : Int) = List.getD d (8 : Nat) (0 : Int) ∧ List.getD (shaF (List.flatten [[(5 : Int)], [(↑(115 : Nat) :
  Int), (↑(116 : Nat) : Int), (↑(97 : Nat) : Int), (↑(116 : Nat) : Int), (↑(101 : Nat) : Int)], Prod.fst (encodeF (Val.mk (Val.k v) (Val.n v) (Val.b v) (Val.l v)))])) (9 : Nat) (0 :
  Int) = List.getD d (9 : Nat) (0 : Int) ∧ List.getD (shaF (List.flatten [[(5 : Int)], [(↑(115 : Nat) : Int), (↑(116 : Nat) : Int), (↑(97 : Nat) : Int), (↑(116 : Nat) : Int), (↑(101
  : Nat) : Int)], Prod.fst (encodeF (Val.mk (Val.k v) (Val.n v) (Val.b v) (Val.l v)))])) (10 : Nat) (0 : Int) = List.getD d (10 : Nat) (0 : Int) ∧ List.getD (shaF (List.flatten [[(5
  : Int)], [(↑(115 : Nat) : Int), (↑(116 : Nat) : Int), (↑(97 : Nat) : Int), (↑(116 : Nat) : Int), (↑(101 : Nat) : Int)], Prod.fst (encodeF (Val.mk (Val.k v) (Val.n v) (Val.b v)
  (Val.l v)))])) (11 : Nat) (0 : Int) = List.getD d (11 : Nat) (0 : Int) ∧ List.getD (shaF (List.flatten [[(5 : Int)], [(↑(115 : Nat) : Int), (↑(116 : Nat) : Int), (↑(97 : Nat) :
  Int), (↑(116 : Nat) : Int), (↑(101 : Nat) : Int)], Prod.fst (encodeF (Val.mk (Val.k v) (Val.n v) (Val.b v) (Val.l v)))])) (12 : Nat) (0 : Int) = List.getD d (12 : Nat) (0 : Int) ∧
  List.getD (shaF (List.flatten [[(5 : Int)], [(↑(115 : Nat) : Int), (↑(116 : Nat) : Int), (↑(97 : Nat) : Int), (↑(116 : Nat) : Int), (↑(101 : Nat) : Int)], Prod.fst (encodeF (Val.mk
  (Val.k v) (Val.n v) (Val.b v) (Val.l v)))])) (13 : Nat) (0 : Int) = List.getD d (13 : Nat) (0 : Int) ∧ List.getD (shaF (List.flatten [[(5 : Int)], [(↑(115 : Nat) : Int), (↑(116 :
  Nat) : Int), (↑(97 : Nat) : Int), (↑(116 : Nat) : Int), (↑(101 : Nat) : Int)], Prod.fst (encodeF (Val.mk (Val.k v) (Val.n v) (Val.b v) (Val.l v)))])) (14 : Nat) (0 : Int) =
  List.getD d (14 : Nat) (0 : Int) ∧ List.getD (shaF (List.flatten [[(5 : Int)], [(↑(115 : Nat) : Int), (↑(116 : Nat) : Int), (↑(97 : Nat) : Int), (↑(116 : Nat) : Int), (↑(101 : Nat)
  : Int)], Prod.fst (encodeF (Val.mk (Val.k v) (Val.n v) (Val.b v) (Val.l v)))])) (15 : Nat) (0 : Int) = List.getD d (15 : Nat) (0 : Int) ∧ List.getD (shaF (List.flatten [[(5 :
  Int)], [(↑(115 : Nat) : Int), (↑(116 : Nat) : Int), (↑(97 : Nat) : Int), (↑(116 : Nat) : Int), (↑(101 : Nat) : Int)], Prod.fst (encodeF (Val.mk (Val.k v) (Val.n v) (Val.b v) (Val.l
  v)))])) (16 : Nat) (0 : Int) = List.getD d (16 : Nat) (0 : Int) ∧ List.getD (shaF (List.flatten [[(5 : Int)], [(↑(115 : Nat) : Int), (↑(116 : Nat) : Int), (↑(97 : Nat) : Int),
  (↑(116 : Nat) : Int), (↑(101 : Nat) : Int)], Prod.fst (encodeF (Val.mk (Val.k v) (Val.n v) (Val.b v) (Val.l v)))])) (17 : Nat) (0 : Int) = List.getD d (17 : Nat) (0 : Int) ∧
  List.getD (shaF (List.flatten [[(5 : Int)], [(↑(115 : Nat) : Int), (↑(116 : Nat) : Int), (↑(97 : Nat) : Int), (↑(116 : Nat) : Int), (↑(101 : Nat) : Int)], Prod.fst (encodeF (Val.mk
  (Val.k v) (Val.n v) (Val.b v) (Val.l v)))])) (18 : Nat) (0 : Int) = List.getD d (18 : Nat) (0 : Int) ∧ List.getD (shaF (List.flatten [[(5 : Int)], [(↑(115 : Nat) : Int), (↑(116 :
  Nat) : Int), (↑(97 : Nat) : Int), (↑(116 : Nat) : Int), (↑(101 : Nat) : Int)], Prod.fst (encodeF (Val.mk (Val.k v) (Val.n v) (Val.b v) (Val.l v)))])) (19 : Nat) (0 : Int) =
  List.getD d (19 : Nat) (0 : Int) ∧ List.getD (shaF (List.flatten [[(5 : Int)], [(↑(115 : Nat) : Int), (↑(116 : Nat) : Int), (↑(97 : Nat) : Int), (↑(116 : Nat) : Int), (↑(101 : Nat)
  : Int)], Prod.fst (encodeF (Val.mk (Val.k v) (Val.n v) (Val.b v) (Val.l v)))])) (20 : Nat) (0 : Int) = List.getD d (20 : Nat) (0 : Int) ∧ List.getD (shaF (List.flatten [[(5 :
  Int)], [(↑(115 : Nat) : Int), (↑(116 : Nat) : Int), (↑(97 : Nat) : Int), (↑(116 : Nat) : Int), (↑(101 : Nat) : Int)], Prod.fst (encodeF (Val.mk (Val.k v) (Val.n v) (Val.b v) (Val.l
  v)))])) (21 : Nat) (0 : Int) = List.getD d (21 : Nat) (0 : Int) ∧ List.getD (shaF (List.flatten [[(5 : Int)], [(↑(115 : Nat) : Int), (↑(116 : Nat) : Int), (↑(97 : Nat) : Int),
  (↑(116 : Nat) : Int), (↑(101 : Nat) : Int)], Prod.fst (encodeF (Val.mk (Val.k v) (Val.n v) (Val.b v) (Val.l v)))])) (22 : Nat) (0 : Int) = List.getD d (22 : Nat) (0 : Int) ∧
  List.getD (shaF (List.flatten [[(5 : Int)], [(↑(115 : Nat) : Int), (↑(116 : Nat) : Int), (↑(97 : Nat) : Int), (↑(116 : Nat) : Int), (↑(101 : Nat) : Int)], Prod.fst (encodeF (Val.mk
  (Val.k v) (Val.n v) (Val.b v) (Val.l v)))])) (23 : Nat) (0 : Int) = List.getD d (23 : Nat) (0 : Int) ∧ List.getD (shaF (List.flatten [[(5 : Int)], [(↑(115 : Nat) : Int), (↑(116 :
  Nat) : Int), (↑(97 : Nat) : Int), (↑(116 : Nat) : Int), (↑(101 : Nat) : Int)], Prod.fst (encodeF (Val.mk (Val.k v) (Val.n v) (Val.b v) (Val.l v)))])) (24 : Nat) (0 : Int) =
  List.getD d (24 : Nat) (0 : Int) ∧ List.getD (shaF (List.flatten [[(5 : Int)], [(↑(115 : Nat) : Int), (↑(116 : Nat) : Int), (↑(97 : Nat) : Int), (↑(116 : Nat) : Int), (↑(101 : Nat)
  : Int)], Prod.fst (encodeF (Val.mk (Val.k v) (Val.n v) (Val.b v) (Val.l v)))])) (25 : Nat) (0 : Int) = List.getD d (25 : Nat) (0 : Int) ∧ List.getD (shaF (List.flatten [[(5 :
  Int)], [(↑(115 : Nat) : Int), (↑(116 : Nat) : Int), (↑(97 : Nat) : Int), (↑(116 : Nat) : Int), (↑(101 : Nat) : Int)], Prod.fst (encodeF (Val.mk (Val.k v) (Val.n v) (Val.b v) (Val.l
  v)))])) (26 : Nat) (0 : Int) = List.getD d (26 : Nat) (0 : Int) ∧ List.getD (shaF (List.flatten [[(5 : Int)], [(↑(115 : Nat) : Int), (↑(116 : Nat) : Int), (↑(97 : Nat) : Int),
  (↑(116 : Nat) : Int), (↑(101 : Nat) : Int)], Prod.fst (encodeF (Val.mk (Val.k v) (Val.n v) (Val.b v) (Val.l v)))])) (27 : Nat) (0 : Int) = List.getD d (27 : Nat) (0 : Int) ∧
  List.getD (shaF (List.flatten [[(5 : Int)], [(↑(115 : Nat) : Int), (↑(116 : Nat) : Int), (↑(97 : Nat) : Int), (↑(116 : Nat) : Int), (↑(101 : Nat) : Int)], Prod.fst (encodeF (Val.mk
  (Val.k v) (Val.n v) (Val.b v) (Val.l v)))])) (28 : Nat) (0 : Int) = List.getD d (28 : Nat) (0 : Int) ∧ List.getD (shaF (List.flatten [[(5 : Int)], [(↑(115 : Nat) : Int), (↑(116 :
  Nat) : Int), (↑(97 : Nat) : Int), (↑(116 : Nat) : Int), (↑(101 : Nat) : Int)], Prod.fst (encodeF (Val.mk (Val.k v) (Val.n v) (Val.b v) (Val.l v)))])) (29 : Nat) (0 : Int) =
  List.getD d (29 : Nat) (0 : Int) ∧ List.getD (shaF (List.flatten [[(5 : Int)], [(↑(115 : Nat) : Int), (↑(116 : Nat) : Int), (↑(97 : Nat) : Int), (↑(116 : Nat) : Int), (↑(101 : Nat)
  : Int)], Prod.fst (encodeF (Val.mk (Val.k v) (Val.n v) (Val.b v) (Val.l v)))])) (30 : Nat) (0 : Int) = List.getD d (30 : Nat) (0 : Int) ∧ List.getD (shaF (List.flatten [[(5 :
  Int)], [(↑(115 : Nat) : Int), (↑(116 : Nat) : Int), (↑(97 : Nat) : Int), (↑(116 : Nat) : Int), (↑(101 : Nat) : Int)], Prod.fst (encodeF (Val.mk (Val.k v) (Val.n v) (Val.b v) (Val.l
  v)))])) (31 : Nat) (0 : Int) = List.getD d (31 : Nat) (0 : Int) ∧ True
  ) := by kernel_rfl
--@end
--@end
--@end
def tagB : Nat → List Int
  | 0 => [115, 116, 97, 99, 107]
  | 1 => [112, 114, 111, 103, 114, 97, 109]
  | 2 => [105, 110, 112, 117, 116, 115]
  | _ => [115, 116, 97, 116, 101]
/-- the tagged digest of a value -/
noncomputable def hashF (i : Nat) (v : Val) : List Int := shaF [[((tagB i).length : Int)], tagB i, (encodeF v).1].flatten
theorem encodeF_len (v : Val) : (encodeF v).1.length ≤ 65536 := by
  unfold encodeF
  split
  · simp
  · split
    · simp
    · split
      · simp
      · show (encV v).length ≤ _; omega
theorem parts_ok (i : Nat) (v : Val) : PartsOk [[((tagB i).length : Int)], tagB i, (encodeF v).1] := by
  have h1 := encodeF_len v
  have h2 : (tagB i).length ≤ 7 := by unfold tagB; split <;> simp
  refine ⟨⟨_, _, rfl, by simp⟩, ?_, by simp⟩
  simp only [List.flatten_cons, List.flatten_nil, List.length_append, List.length_cons, List.length_nil]
  omega
theorem hash_pure (i : Nat) (hi : i < 4) (v : Val) (hv : OkV v) : PureC E2 35 [.str true (tags.getD i ⟨#[]⟩), .agg (encF false .vals v)] (dig32 (hashF i v)) := by
  have hp := parts_ok i v
  match i, hi with
  | 0, _ =>
    refine pure_of_call E2_ok (callOk_of E2_ok Fdig_ok 400) ?_
    show callF E2 Fdig (vc E2 Fdig 400) 35 [.str true ⟨#[115, 116, 97, 99, 107]⟩, .agg (encF false .vals v)] hp0 0 _
    rw [cond_hash0, val_eta]
    exact ⟨hv, hp, rfl, rfl, rfl, rfl, rfl, rfl, rfl, rfl, rfl, rfl, rfl, rfl, rfl, rfl, rfl, rfl, rfl, rfl, rfl, rfl, rfl, rfl, rfl, rfl, rfl, rfl, rfl, rfl, rfl, rfl, rfl, rfl, trivial⟩
  | 1, _ =>
    refine pure_of_call E2_ok (callOk_of E2_ok Fdig_ok 400) ?_
    show callF E2 Fdig (vc E2 Fdig 400) 35 [.str true ⟨#[112, 114, 111, 103, 114, 97, 109]⟩, .agg (encF false .vals v)] hp0 0 _
    rw [cond_hash1, val_eta]
    exact ⟨hv, hp, rfl, rfl, rfl, rfl, rfl, rfl, rfl, rfl, rfl, rfl, rfl, rfl, rfl, rfl, rfl, rfl, rfl, rfl, rfl, rfl, rfl, rfl, rfl, rfl, rfl, rfl, rfl, rfl, rfl, rfl, rfl, rfl, trivial⟩
  | 2, _ =>
    refine pure_of_call E2_ok (callOk_of E2_ok Fdig_ok 400) ?_
    show callF E2 Fdig (vc E2 Fdig 400) 35 [.str true ⟨#[105, 110, 112, 117, 116, 115]⟩, .agg (encF false .vals v)] hp0 0 _
    rw [cond_hash2, val_eta]
    exact ⟨hv, hp, rfl, rfl, rfl, rfl, rfl, rfl, rfl, rfl, rfl, rfl, rfl, rfl, rfl, rfl, rfl, rfl, rfl, rfl, rfl, rfl, rfl, rfl, rfl, rfl, rfl, rfl, rfl, rfl, rfl, rfl, rfl, rfl, trivial⟩
  | 3, _ =>
    refine pure_of_call E2_ok (callOk_of E2_ok Fdig_ok 400) ?_
    show callF E2 Fdig (vc E2 Fdig 400) 35 [.str true ⟨#[115, 116, 97, 116, 101]⟩, .agg (encF false .vals v)] hp0 0 _
    rw [cond_hash3, val_eta]
    exact ⟨hv, hp, rfl, rfl, rfl, rfl, rfl, rfl, rfl, rfl, rfl, rfl, rfl, rfl, rfl, rfl, rfl, rfl, rfl, rfl, rfl, rfl, rfl, rfl, rfl, rfl, rfl, rfl, rfl, rfl, rfl, rfl, rfl, rfl, trivial⟩
def zero32 : List Int := [0, 0, 0, 0, 0, 0, 0, 0, 0, 0, 0, 0, 0, 0, 0, 0, 0, 0, 0, 0, 0, 0, 0, 0, 0, 0, 0, 0, 0, 0, 0, 0]
end Go.Proofs.YtcaomfbcchemnabDoor

/- Digests of stacks and programs. -/
namespace Go.Proofs.YtcaomfbcchemnabDoor
open Go
set_option linter.unusedVariables false
set_option linter.unusedSimpArgs false
def n32 (d : List Int) : List Int := (List.range 32).map fun i => d.getD i 0
def numV (n : Int) : Val := .mk 1 n [] []
def bytV (d : List Int) : Val := .mk 2 0 (n32 d) []
def lisV (l : List Val) : Val := .mk 3 0 [] l
def stackV (n : Int) (d : List Int) : Val := lisV [numV n, bytV d]
def progV (x : Ins) (d : List Int) : Val := lisV [numV x.op, numV x.n, numV x.m, bytV d]
noncomputable def ontoF (d : List Int) (l : List Int) : List Int := l.foldl (fun d n => hashF 0 (stackV n d)) d
noncomputable def stackF (l : List Int) : List Int := ontoF zero32 l
noncomputable def progF (c : List Ins) : List Int := c.foldl (fun d x => hashF 1 (progV x d)) zero32
noncomputable def dTV : DcL E2 (Nat × Val × Unit) := .cons (dTag tags) (.cons (dRow E2_ok Th.vals fun _ _ h => dec_nid (th := Th.vals) h : Dc E2 Val) .nil)
noncomputable def Shash : Sum thy := sumFY E2 gthV 10 dTV (fun x => x.1 < 4 ∧ OkV x.2.1) (fun x => hashF x.1 x.2.1) dig32
theorem Shash_ok : SumOk E2 35 Shash := sumFY_ok E2_ok (good_of (f := 35) rfl) fun x h => hash_pure x.1 h.1 x.2.1 h.2
def Aonto : Fr thy → Hp thy → Nat → Ann thy := fun T h i => { X := DX, fr := fun x => [(2, T 2), (4, T 4), (7, T 7), (8, T 8), (9, .int false .i64 x.k)], bl := fun x => (bOf (T 2), .raw (dig32 x.D).cells 0 none) :: blkP h (T 4), src := fun _ => [], md := [bOf (T 2)], ih := i, M := i + 60, meas := fun x => x.r }
def Aprog : Fr thy → Hp thy → Nat → Ann thy := fun T h i => { X := DX, fr := fun x => [(2, T 2), (5, T 5), (6, T 6), (7, .int false .i64 x.k)], bl := fun x => [(bOf (T 2), .raw (dig32 x.D).cells 0 none)], src := fun _ => [], md := [bOf (T 2)], ih := i, M := i + 60, meas := fun x => x.r }
noncomputable def Fonto : Fns thy := addL (addL (addS F0 35 Shash) 34 2 Aonto E2) 38 2 Aprog E2
theorem Fonto_ok : FnsOk E2 Fonto := addL_ok E2_ok (addL_ok E2_ok (addS_ok F0_ok2 Shash_ok) _ _ _) _ _ _
--@cond onto | 34 | E2:Fonto | 400 | (d l : List Int) | [dig32 d, .psl Th.ints l false] | (z : List Int) | dig32 z
theorem cond_onto (d l : List Int) (z : List Int) : callF E2 Fonto (vc E2 Fonto 400) 34 [dig32 d, .psl Th.ints l false] hp0 0 (fun r => ret E2 (patch hp0 0 r) r.v (dig32 z)) = (
  ∃ (R : DX → Prop), (∃ (x : DX), R x ∧ true = true ∧ ((0 : Nat) = (0 : Nat) ∧ (0 : Nat) = (0 : Nat) ∧ (l = l ∧ (false = true → false = true)) ∧ (↑(List.length l) : Int) =
  (↑(List.length l) : Int) ∧ (0 : Int) = (↑(DX.k x) : Int) ∧ True) ∧ (List.getD d (0 : Nat) (0 : Int) = List.getD (DX.D x) (0 : Nat) (0 : Int) ∧ List.getD d (1 : Nat) (0 : Int) =
  List.getD (DX.D x) (1 : Nat) (0 : Int) ∧ List.getD d (2 : Nat) (0 : Int) = List.getD (DX.D x) (2 : Nat) (0 : Int) ∧ List.getD d (3 : Nat) (0 : Int) = List.getD (DX.D x) (3 : Nat)
  (0 : Int) ∧ List.getD d (4 : Nat) (0 : Int) = List.getD (DX.D x) (4 : Nat) (0 : Int) ∧ List.getD d (5 : Nat) (0 : Int) = List.getD (DX.D x) (5 : Nat) (0 : Int) ∧ List.getD d (6 :
  Nat) (0 : Int) = List.getD (DX.D x) (6 : Nat) (0 : Int) ∧ List.getD d (7 : Nat) (0 : Int) = List.getD (DX.D x) (7 : Nat) (0 : Int) ∧ List.getD d (8 : Nat) (0 : Int) = List.getD
  (DX.D x) (8 : Nat) (0 : Int) ∧ List.getD d (9 : Nat) (0 : Int) = List.getD (DX.D x) (9 : Nat) (0 : Int) ∧ List.getD d (10 : Nat) (0 : Int) = List.getD (DX.D x) (10 : Nat) (0 : Int)
  ∧ List.getD d (11 : Nat) (0 : Int) = List.getD (DX.D x) (11 : Nat) (0 : Int) ∧ List.getD d (12 : Nat) (0 : Int) = List.getD (DX.D x) (12 : Nat) (0 : Int) ∧ List.getD d (13 : Nat)
  (0 : Int) = List.getD (DX.D x) (13 : Nat) (0 : Int) ∧ List.getD d (14 : Nat) (0 : Int) = List.getD (DX.D x) (14 : Nat) (0 : Int) ∧ List.getD d (15 : Nat) (0 : Int) = List.getD
  (DX.D x) (15 : Nat) (0 : Int) ∧ List.getD d (16 : Nat) (0 : Int) = List.getD (DX.D x) (16 : Nat) (0 : Int) ∧ List.getD d (17 : Nat) (0 : Int) = List.getD (DX.D x) (17 : Nat) (0 :
  Int) ∧ List.getD d (18 : Nat) (0 : Int) = List.getD (DX.D x) (18 : Nat) (0 : Int) ∧ List.getD d (19 : Nat) (0 : Int) = List.getD (DX.D x) (19 : Nat) (0 : Int) ∧ List.getD d (20 :
  Nat) (0 : Int) = List.getD (DX.D x) (20 : Nat) (0 : Int) ∧ List.getD d (21 : Nat) (0 : Int) = List.getD (DX.D x) (21 : Nat) (0 : Int) ∧ List.getD d (22 : Nat) (0 : Int) = List.getD
  (DX.D x) (22 : Nat) (0 : Int) ∧ List.getD d (23 : Nat) (0 : Int) = List.getD (DX.D x) (23 : Nat) (0 : Int) ∧ List.getD d (24 : Nat) (0 : Int) = List.getD (DX.D x) (24 : Nat) (0 :
  Int) ∧ List.getD d (25 : Nat) (0 : Int) = List.getD (DX.D x) (25 : Nat) (0 : Int) ∧ List.getD d (26 : Nat) (0 : Int) = List.getD (DX.D x) (26 : Nat) (0 : Int) ∧ List.getD d (27 :
  Nat) (0 : Int) = List.getD (DX.D x) (27 : Nat) (0 : Int) ∧ List.getD d (28 : Nat) (0 : Int) = List.getD (DX.D x) (28 : Nat) (0 : Int) ∧ List.getD d (29 : Nat) (0 : Int) = List.getD
  (DX.D x) (29 : Nat) (0 : Int) ∧ List.getD d (30 : Nat) (0 : Int) = List.getD (DX.D x) (30 : Nat) (0 : Int) ∧ List.getD d (31 : Nat) (0 : Int) = List.getD (DX.D x) (31 : Nat) (0 :
  Int) ∧ True) ∧ ((0 : Int) = (0 : Int) ∧ (0 : Int) = (0 : Int) ∧ (0 : Int) = (0 : Int) ∧ (0 : Int) = (0 : Int) ∧ (0 : Int) = (0 : Int) ∧ (0 : Int) = (0 : Int) ∧ (0 : Int) = (0 :
  Int) ∧ (0 : Int) = (0 : Int) ∧ (0 : Int) = (0 : Int) ∧ (0 : Int) = (0 : Int) ∧ (0 : Int) = (0 : Int) ∧ (0 : Int) = (0 : Int) ∧ (0 : Int) = (0 : Int) ∧ (0 : Int) = (0 : Int) ∧ (0 :
  Int) = (0 : Int) ∧ (0 : Int) = (0 : Int) ∧ (0 : Int) = (0 : Int) ∧ (0 : Int) = (0 : Int) ∧ (0 : Int) = (0 : Int) ∧ (0 : Int) = (0 : Int) ∧ (0 : Int) = (0 : Int) ∧ (0 : Int) = (0 :
  Int) ∧ (0 : Int) = (0 : Int) ∧ (0 : Int) = (0 : Int) ∧ (0 : Int) = (0 : Int) ∧ (0 : Int) = (0 : Int) ∧ (0 : Int) = (0 : Int) ∧ (0 : Int) = (0 : Int) ∧ (0 : Int) = (0 : Int) ∧ (0 :
  Int) = (0 : Int) ∧ (0 : Int) = (0 : Int) ∧ (0 : Int) = (0 : Int) ∧ True) ∧ True) ∧ ∀ (x : DX), R x → (decide ((↑(DX.k x) : Int) < (↑(List.length l) : Int)) = true → (0 : Int) ≤
  (↑(DX.k x) : Int) ∧ (↑(DX.k x) : Int) + (1 : Int) ≤ (↑(List.length l) : Int) ∧ ∀ (x_1 : Int), l[Int.toNat (↑(DX.k x) : Int)]? = some x_1 → ((0 : Nat) + (1 : Nat) ≤ (4 : Nat) ∧ OkV
  (Val.mk (3 : Int) (0 : Int) [] [Val.mk (1 : Int) x_1 [] [], Val.mk (2 : Int) (0 : Int) [List.getD (DX.D x) (0 : Nat) (0 : Int), List.getD (DX.D x) (1 : Nat) (0 : Int), List.getD
  (DX.D x) (2 : Nat) (0 : Int), List.getD (DX.D x) (3 : Nat) (0 : Int), List.getD (DX.D x) (4 : Nat) (0 : Int), List.getD (DX.D x) (5 : Nat) (0 : Int), List.getD (DX.D x) (6 : Nat)
  (0 : Int), List.getD (DX.D x) (7 : Nat) (0 : Int), List.getD (DX.D x) (8 : Nat) (0 : Int), List.getD (DX.D x) (9 : Nat) (0 : Int), List.getD (DX.D x) (10 : Nat) (0 : Int),
  List.getD (DX.D x) (11 : Nat) (0 : Int), List.getD (DX.D x) (12 : Nat) (0 : Int), List.getD (DX.D x) (13 : Nat) (0 : Int), List.getD (DX.D x) (14 : Nat) (0 : Int), List.getD (DX.D
  x) (15 : Nat) (0 : Int), List.getD (DX.D x) (16 : Nat) (0 : Int), List.getD (DX.D x) (17 : Nat) (0 : Int), List.getD (DX.D x) (18 : Nat) (0 : Int), List.getD (DX.D x) (19 : Nat) (0
  : Int), List.getD (DX.D x) (20 : Nat) (0 : Int), List.getD (DX.D x) (21 : Nat) (0 : Int), List.getD (DX.D x) (22 : Nat) (0 : Int), List.getD (DX.D x) (23 : Nat) (0 : Int),
  List.getD (DX.D x) (24 : Nat) (0 : Int), List.getD (DX.D x) (25 : Nat) (0 : Int), List.getD (DX.D x) (26 : Nat) (0 : Int), List.getD (DX.D x) (27 : Nat) (0 : Int), List.getD (DX.D
  x) (28 : Nat) (0 : Int), List.getD (DX.D x) (29 : Nat) (0 : Int), List.getD (DX.D x) (30 : Nat) (0 : Int), List.getD (DX.D x) (31 : Nat) (0 : Int)] []])) ∧ ∀ (y : List Int), y =
  hashF (0 : Nat) (Val.mk (3 : Int) (0 : Int) [] [Val.mk (1 : Int) x_1 [] [], Val.mk (2 : Int) (0 : Int) [List.getD (DX.D x) (0 : Nat) (0 : Int), List.getD (DX.D x) (1 : Nat) (0 :
  Int), List.getD (DX.D x) (2 : Nat) (0 : Int), List.getD (DX.D x) (3 : Nat) (0 : Int), List.getD (DX.D x) (4 : Nat) (0 : Int), List.getD (DX.D x) (5 : Nat) (0 : Int), List.getD
  (DX.D x) (6 : Nat) (0 : Int), List.getD (DX.D x) (7 : Nat) (0 : Int), List.getD (DX.D x) (8 : Nat) (0 : Int), List.getD (DX.D x) (9 : Nat) (0 : Int), List.getD (DX.D x) (10 : Nat)
  (0 : Int), List.getD (DX.D x) (11 : Nat) (0 : Int), List.getD (DX.D x) (12 : Nat) (0 : Int), List.getD (DX.D x) (13 : Nat) (0 : Int), List.getD (DX.D x) (14 : Nat) (0 : Int),
  List.getD (DX.D x) (15 : Nat) (0 : Int), List.getD (DX.D x) (16 : Nat) (0 : Int), List.getD (DX.D x) (17 : Nat) (0 : Int), List.getD (DX.D x) (18 : Nat) (0 : Int), List.getD (DX.D
  x) (19 : Nat) (0 : Int), List.getD (DX.D x) (20 : Nat) (0 : Int), List.getD (DX.D x) (21 : Nat) (0 : Int), List.getD (DX.D x) (22 : Nat) (0 : Int), List.getD (DX.D x) (23 : Nat) (0
  : Int), List.getD (DX.D x) (24 : Nat) (0 : Int), List.getD (DX.D x) (25 : Nat) (0 : Int), List.getD (DX.D x) (26 : Nat) (0 : Int), List.getD (DX.D x) (27 : Nat) (0 : Int),
  List.getD (DX.D x) (28 : Nat) (0 : Int), List.getD (DX.D x) (29 : Nat) (0 : Int), List.getD (DX.D x) (30 : Nat) (0 : Int), List.getD (DX.D x) (31 : Nat) (0 : Int)] []]) → ∃ (x' :
  DX), R x' ∧ x'.2 + (1 : Nat) ≤ x.2 ∧ true = true ∧ ((0 : Nat) = (0 : Nat) ∧ (0 : Nat) = (0 : Nat) ∧ (l = l ∧ (false = true → false = true)) ∧ (↑(List.length l) : Int) =
  (↑(List.length l) : Int) ∧ wr IntKind.i64 ((↑(DX.k x) : Int) + (1 : Int)) = (↑(DX.k x') : Int) ∧ True) ∧ (List.getD y (0 : Nat) (0 : Int) = List.getD (DX.D x') (0 : Nat) (0 : Int)
  ∧ List.getD y (1 : Nat) (0 : Int) = List.getD (DX.D x') (1 : Nat) (0 : Int) ∧ List.getD y (2 : Nat) (0 : Int) = List.getD (DX.D x') (2 : Nat) (0 : Int) ∧ List.getD y (3 : Nat) (0 :
  Int) = List.getD (DX.D x') (3 : Nat) (0 : Int) ∧ List.getD y (4 : Nat) (0 : Int) = List.getD (DX.D x') (4 : Nat) (0 : Int) ∧ List.getD y (5 : Nat) (0 : Int) = List.getD (DX.D x')
  (5 : Nat) (0 : Int) ∧ List.getD y (6 : Nat) (0 : Int) = List.getD (DX.D x') (6 : Nat) (0 : Int) ∧ List.getD y (7 : Nat) (0 : Int) = List.getD (DX.D x') (7 : Nat) (0 : Int) ∧
  List.getD y (8 : Nat) (0 : Int) = List.getD (DX.D x') (8 : Nat) (0 : Int) ∧ List.getD y (9 : Nat) (0 : Int) = List.getD (DX.D x') (9 : Nat) (0 : Int) ∧ List.getD y (10 : Nat) (0 :
  Int) = List.getD (DX.D x') (10 : Nat) (0 : Int) ∧ List.getD y (11 : Nat) (0 : Int) = List.getD (DX.D x') (11 : Nat) (0 : Int) ∧ List.getD y (12 : Nat) (0 : Int) = List.getD (DX.D
  x') (12 : Nat) (0 : Int) ∧ List.getD y (13 : Nat) (0 : Int) = List.getD (DX.D x') (13 : Nat) (0 : Int) ∧ List.getD y (14 : Nat) (0 : Int) = List.getD (DX.D x') (14 : Nat) (0 : Int)
  ∧ List.getD y (15 : Nat) (0 : Int) = List.getD (DX.D x') (15 : Nat) (0 : Int) ∧ List.getD y (16 : Nat) (0 : Int) = List.getD (DX.D x') (16 : Nat) (0 : Int) ∧ List.getD y (17 : Nat)
  (0 : Int) = List.getD (DX.D x') (17 : Nat) (0 : Int) ∧ List.getD y (18 : Nat) (0 : Int) = List.getD (DX.D x') (18 : Nat) (0 : Int) ∧ List.getD y (19 : Nat) (0 : Int) = List.getD
  (DX.D x') (19 : Nat) (0 : Int) ∧ List.getD y (20 : Nat) (0 : Int) = List.getD (DX.D x') (20 : Nat) (0 : Int) ∧ List.getD y (21 : Nat) (0 : Int) = List.getD (DX.D x') (21 : Nat) (0
  : Int) ∧ List.getD y (22 : Nat) (0 : Int) = List.getD (DX.D x') (22 : Nat) (0 : Int) ∧ List.getD y (23 : Nat) (0 : Int) = List.getD (DX.D x') (23 : Nat) (0 : Int) ∧ List.getD y (24
  : Nat) (0 : Int) = List.getD (DX.D x') (24 : Nat) (0 : Int) ∧ List.getD y (25 : Nat) (0 : Int) = List.getD (DX.D x') (25 : Nat) (0 : Int) ∧ List.getD y (26 : Nat) (0 : Int) =
  List.getD (DX.D x') (26 : Nat) (0 : Int) ∧ List.getD y (27 : Nat) (0 : Int) = List.getD (DX.D x') (27 : Nat) (0 : Int) ∧ List.getD y (28 : Nat) (0 : Int) = List.getD (DX.D x') (28
  : Nat) (0 : Int) ∧ List.getD y (29 : Nat) (0 : Int) = List.getD (DX.D x') (29 : Nat) (0 : Int) ∧ List.getD y (30 : Nat) (0 : Int) = List.getD (DX.D x') (30 : Nat) (0 : Int) ∧
  List.getD y (31 : Nat) (0 : Int) = List.getD (DX.D x') (31 : Nat) (0 : Int) ∧ True) ∧ ((0 : Int) = (0 : Int) ∧ (0 : Int) = (0 : Int) ∧ (0 : Int) = (0 : Int) ∧ (0 : Int) = (0 : Int)
  ∧ (0 : Int) = (0 : Int) ∧ (0 : Int) = (0 : Int) ∧ (0 : Int) = (0 : Int) ∧ (0 : Int) = (0 : Int) ∧ (0 : Int) = (0 : Int) ∧ (0 : Int) = (0 : Int) ∧ (0 : Int) = (0 : Int) ∧ (0 : Int)
  = (0 : Int) ∧ (0 : Int) = (0 : Int) ∧ (0 : Int) = (0 : Int) ∧ (0 : Int) = (0 : Int) ∧ (0 : Int) = (0 : Int) ∧ (0 : Int) = (0 : Int) ∧ (0 : Int) = (0 : Int) ∧ (0 : Int) = (0 : Int)
  ∧ (0 : Int) = (0 : Int) ∧ (0 : Int) = (0 : Int) ∧ (0 : Int) = (0 : Int) ∧ (0 : Int) = (0 : Int) ∧ (0 : Int) = (0 : Int) ∧ (0 : Int) = (0 : Int) ∧ (0 : Int) = (0 : Int) ∧ (0 : Int)
  = (0 : Int) ∧ (0 : Int) = (0 : Int) ∧ (0 : Int) = (0 : Int) ∧ (0 : Int) = (0 : Int) ∧ (0 : Int) = (0 : Int) ∧ (0 : Int) = (0 : Int) ∧ True) ∧ True) ∧ (decide ((↑(DX.k x) : Int) <
  (↑(List.length l) : Int)) = false → List.getD (DX.D x) (0 : Nat) (0 : Int) = List.getD z (0 : Nat) (0 : Int) ∧ List.getD (DX.D x) (1 : Nat) (0 : Int) = List.getD z (1 : Nat) (0 :
  Int) ∧ List.getD (DX.D x) (2 : Nat) (0 : Int) = List.getD z (2 : Nat) (0 : Int) ∧ List.getD (DX.D x) (3 : Nat) (0 : Int) = List.getD z (3 : Nat) (0 : Int) ∧ List.getD (DX.D x) (4 :
  Nat) (0 : Int) = List.getD z (4 : Nat) (0 : Int) ∧ List.getD (DX.D x) (5 : Nat) (0 : Int) = List.getD z (5 : Nat) (0 : Int) ∧ List.getD (DX.D x) (6 : Nat) (0 : Int) = List.getD z
  (6 : Nat) (0 : Int) ∧ List.getD (DX.D x) (7 : Nat) (0 : Int) = List.getD z (7 : Nat) (0 : Int) ∧ List.getD (DX.D x) (8 : Nat) (0 : Int) = List.getD z (8 : Nat) (0 : Int) ∧
  List.getD (DX.D x) (9 : Nat) (0 : Int) = List.getD z (9 : Nat) (0 : Int) ∧ List.getD (DX.D x) (10 : Nat) (0 : Int) = List.getD z (10 : Nat) (0 : Int) ∧ List.getD (DX.D x) (11 :
  Nat) (0 : Int) = List.getD z (11 : Nat) (0 : Int) ∧ List.getD (DX.D x) (12 : Nat) (0 : Int) = List.getD z (12 : Nat) (0 : Int) ∧ List.getD (DX.D x) (13 : Nat) (0 : Int) = List.getD
  z (13 : Nat) (0 : Int) ∧ List.getD (DX.D x) (14 : Nat) (0 : Int) = List.getD z (14 : Nat) (0 : Int) ∧ List.getD (DX.D x) (15 : Nat) (0 : Int) = List.getD z (15 : Nat) (0 : Int) ∧
  List.getD (DX.D x) (16 : Nat) (0 : Int) = List.getD z (16 : Nat) (0 : Int) ∧ List.getD (DX.D x) (17 : Nat) (0 : Int) = List.getD z (17 : Nat) (0 : Int) ∧ List.getD (DX.D x) (18 :
  Nat) (0 : Int) = List.getD z (18 : Nat) (0 : Int) ∧ List.getD (DX.D x) (19 : Nat) (0 : Int) = List.getD z (19 : Nat) (0 : Int) ∧ List.getD (DX.D x) (20 : Nat) (0 : Int) = List.getD
  z (20 : Nat) (0 : Int) ∧ List.getD (DX.D x) (21 : Nat) (0 : Int) = List.getD z (21 : Nat) (0 : Int) ∧ List.getD (DX.D x) (22 : Nat) (0 : Int) = List.getD z (22 : Nat) (0 : Int) ∧
  List.getD (DX.D x) (23 : Nat) (0 : Int) = List.getD z (23 : Nat) (0 : Int) ∧ List.getD (DX.D x) (24 : Nat) (0 : Int) = List.getD z (24 : Nat) (0 : Int) ∧ List.getD (DX.D x) (25 :
  Nat) (0 : Int) = List.getD z (25 : Nat) (0 : Int) ∧ List.getD (DX.D x) (26 : Nat) (0 : Int) = List.getD z (26 : Nat) (0 : Int) ∧ List.getD (DX.D x) (27 : Nat) (0 : Int) = List.getD
  z (27 : Nat) (0 : Int) ∧ List.getD (DX.D x) (28 : Nat) (0 : Int) = List.getD z (28 : Nat) (0 : Int) ∧ List.getD (DX.D x) (29 : Nat) (0 : Int) = List.getD z (29 : Nat) (0 : Int) ∧
  List.getD (DX.D x) (30 : Nat) (0 : Int) = List.getD z (30 : Nat) (0 : Int) ∧ List.getD (DX.D x) (31 : Nat) (0 : Int) = List.getD z (31 : Nat) (0 : Int) ∧ True)
  ) := by kernel_rfl
--@end
--@cond prog | 38 | E2:Fonto | 400 | (c : List Ins) | [.psl Th.ins c false] | (z : List Int) | dig32 z
theorem cond_prog (c : List Ins) (z : List Int) : callF E2 Fonto (vc E2 Fonto 400) 38 [.psl Th.ins c false] hp0 0 (fun r => ret E2 (patch hp0 0 r) r.v (dig32 z)) = (
  ∃ (R : DX → Prop), (∃ (x : DX), R x ∧ true = true ∧ ((0 : Nat) = (0 : Nat) ∧ (c = c ∧ (false = true → false = true)) ∧ (↑(List.length c) : Int) = (↑(List.length c) : Int) ∧ (0 :
  Int) = (↑(DX.k x) : Int) ∧ True) ∧ ((0 : Int) = List.getD (DX.D x) (0 : Nat) (0 : Int) ∧ (0 : Int) = List.getD (DX.D x) (1 : Nat) (0 : Int) ∧ (0 : Int) = List.getD (DX.D x) (2 :
  Nat) (0 : Int) ∧ (0 : Int) = List.getD (DX.D x) (3 : Nat) (0 : Int) ∧ (0 : Int) = List.getD (DX.D x) (4 : Nat) (0 : Int) ∧ (0 : Int) = List.getD (DX.D x) (5 : Nat) (0 : Int) ∧ (0 :
  Int) = List.getD (DX.D x) (6 : Nat) (0 : Int) ∧ (0 : Int) = List.getD (DX.D x) (7 : Nat) (0 : Int) ∧ (0 : Int) = List.getD (DX.D x) (8 : Nat) (0 : Int) ∧ (0 : Int) = List.getD
  (DX.D x) (9 : Nat) (0 : Int) ∧ (0 : Int) = List.getD (DX.D x) (10 : Nat) (0 : Int) ∧ (0 : Int) = List.getD (DX.D x) (11 : Nat) (0 : Int) ∧ (0 : Int) = List.getD (DX.D x) (12 : Nat)
  (0 : Int) ∧ (0 : Int) = List.getD (DX.D x) (13 : Nat) (0 : Int) ∧ (0 : Int) = List.getD (DX.D x) (14 : Nat) (0 : Int) ∧ (0 : Int) = List.getD (DX.D x) (15 : Nat) (0 : Int) ∧ (0 :
  Int) = List.getD (DX.D x) (16 : Nat) (0 : Int) ∧ (0 : Int) = List.getD (DX.D x) (17 : Nat) (0 : Int) ∧ (0 : Int) = List.getD (DX.D x) (18 : Nat) (0 : Int) ∧ (0 : Int) = List.getD
  (DX.D x) (19 : Nat) (0 : Int) ∧ (0 : Int) = List.getD (DX.D x) (20 : Nat) (0 : Int) ∧ (0 : Int) = List.getD (DX.D x) (21 : Nat) (0 : Int) ∧ (0 : Int) = List.getD (DX.D x) (22 :
  Nat) (0 : Int) ∧ (0 : Int) = List.getD (DX.D x) (23 : Nat) (0 : Int) ∧ (0 : Int) = List.getD (DX.D x) (24 : Nat) (0 : Int) ∧ (0 : Int) = List.getD (DX.D x) (25 : Nat) (0 : Int) ∧
  (0 : Int) = List.getD (DX.D x) (26 : Nat) (0 : Int) ∧ (0 : Int) = List.getD (DX.D x) (27 : Nat) (0 : Int) ∧ (0 : Int) = List.getD (DX.D x) (28 : Nat) (0 : Int) ∧ (0 : Int) =
  List.getD (DX.D x) (29 : Nat) (0 : Int) ∧ (0 : Int) = List.getD (DX.D x) (30 : Nat) (0 : Int) ∧ (0 : Int) = List.getD (DX.D x) (31 : Nat) (0 : Int) ∧ True) ∧ True) ∧ ∀ (x : DX), R
  x → (decide ((↑(DX.k x) : Int) < (↑(List.length c) : Int)) = true → (0 : Int) ≤ (↑(DX.k x) : Int) ∧ (↑(DX.k x) : Int) + (1 : Int) ≤ (↑(List.length c) : Int) ∧ ∀ (x_1 : Ins),
  c[Int.toNat (↑(DX.k x) : Int)]? = some x_1 → ((0 : Nat) + (1 : Nat) + (1 : Nat) ≤ (4 : Nat) ∧ OkV (Val.mk (3 : Int) (0 : Int) [] [Val.mk (1 : Int) (Ins.op x_1) [] [], Val.mk (1 :
  Int) (Ins.n x_1) [] [], Val.mk (1 : Int) (Ins.m x_1) [] [], Val.mk (2 : Int) (0 : Int) [List.getD (DX.D x) (0 : Nat) (0 : Int), List.getD (DX.D x) (1 : Nat) (0 : Int), List.getD
  (DX.D x) (2 : Nat) (0 : Int), List.getD (DX.D x) (3 : Nat) (0 : Int), List.getD (DX.D x) (4 : Nat) (0 : Int), List.getD (DX.D x) (5 : Nat) (0 : Int), List.getD (DX.D x) (6 : Nat)
  (0 : Int), List.getD (DX.D x) (7 : Nat) (0 : Int), List.getD (DX.D x) (8 : Nat) (0 : Int), List.getD (DX.D x) (9 : Nat) (0 : Int), List.getD (DX.D x) (10 : Nat) (0 : Int),
  List.getD (DX.D x) (11 : Nat) (0 : Int), List.getD (DX.D x) (12 : Nat) (0 : Int), List.getD (DX.D x) (13 : Nat) (0 : Int), List.getD (DX.D x) (14 : Nat) (0 : Int), List.getD (DX.D
  x) (15 : Nat) (0 : Int), List.getD (DX.D x) (16 : Nat) (0 : Int), List.getD (DX.D x) (17 : Nat) (0 : Int), List.getD (DX.D x) (18 : Nat) (0 : Int), List.getD (DX.D x) (19 : Nat) (0
  : Int), List.getD (DX.D x) (20 : Nat) (0 : Int), List.getD (DX.D x) (21 : Nat) (0 : Int), List.getD (DX.D x) (22 : Nat) (0 : Int), List.getD (DX.D x) (23 : Nat) (0 : Int),
  List.getD (DX.D x) (24 : Nat) (0 : Int), List.getD (DX.D x) (25 : Nat) (0 : Int), List.getD (DX.D x) (26 : Nat) (0 : Int), List.getD (DX.D x) (27 : Nat) (0 : Int), List.getD (DX.D
  x) (28 : Nat) (0 : Int), List.getD (DX.D x) (29 : Nat) (0 : Int), List.getD (DX.D x) (30 : Nat) (0 : Int), List.getD (DX.D x) (31 : Nat) (0 : Int)] []])) ∧ ∀ (y : List Int), y =
  hashF ((0 : Nat) + (1 : Nat)) (Val.mk (3 : Int) (0 : Int) [] [Val.mk (1 : Int) (Ins.op x_1) [] [], Val.mk (1 : Int) (Ins.n x_1) [] [], Val.mk (1 : Int) (Ins.m x_1) [] [], Val.mk (2
  : Int) (0 : Int) [List.getD (DX.D x) (0 : Nat) (0 : Int), List.getD (DX.D x) (1 : Nat) (0 : Int), List.getD (DX.D x) (2 : Nat) (0 : Int), List.getD (DX.D x) (3 : Nat) (0 : Int),
  List.getD (DX.D x) (4 : Nat) (0 : Int), List.getD (DX.D x) (5 : Nat) (0 : Int), List.getD (DX.D x) (6 : Nat) (0 : Int), List.getD (DX.D x) (7 : Nat) (0 : Int), List.getD (DX.D x)
  (8 : Nat) (0 : Int), List.getD (DX.D x) (9 : Nat) (0 : Int), List.getD (DX.D x) (10 : Nat) (0 : Int), List.getD (DX.D x) (11 : Nat) (0 : Int), List.getD (DX.D x) (12 : Nat) (0 :
  Int), List.getD (DX.D x) (13 : Nat) (0 : Int), List.getD (DX.D x) (14 : Nat) (0 : Int), List.getD (DX.D x) (15 : Nat) (0 : Int), List.getD (DX.D x) (16 : Nat) (0 : Int), List.getD
  (DX.D x) (17 : Nat) (0 : Int), List.getD (DX.D x) (18 : Nat) (0 : Int), List.getD (DX.D x) (19 : Nat) (0 : Int), List.getD (DX.D x) (20 : Nat) (0 : Int), List.getD (DX.D x) (21 :
  Nat) (0 : Int), List.getD (DX.D x) (22 : Nat) (0 : Int), List.getD (DX.D x) (23 : Nat) (0 : Int), List.getD (DX.D x) (24 : Nat) (0 : Int), List.getD (DX.D x) (25 : Nat) (0 : Int),
  List.getD (DX.D x) (26 : Nat) (0 : Int), List.getD (DX.D x) (27 : Nat) (0 : Int), List.getD (DX.D x) (28 : Nat) (0 : Int), List.getD (DX.D x) (29 : Nat) (0 : Int), List.getD (DX.D
  x) (30 : Nat) (0 : Int), List.getD (DX.D x) (31 : Nat) (0 : Int)] []]) → ∃ (x' : DX), R x' ∧ x'.2 + (1 : Nat) ≤ x.2 ∧ true = true ∧ ((0 : Nat) = (0 : Nat) ∧ (c = c ∧ (false = true
  → false = true)) ∧ (↑(List.length c) : Int) = (↑(List.length c) : Int) ∧ wr IntKind.i64 ((↑(DX.k x) : Int) + (1 : Int)) = (↑(DX.k x') : Int) ∧ True) ∧ (List.getD y (0 : Nat) (0 :
  Int) = List.getD (DX.D x') (0 : Nat) (0 : Int) ∧ List.getD y (1 : Nat) (0 : Int) = List.getD (DX.D x') (1 : Nat) (0 : Int) ∧ List.getD y (2 : Nat) (0 : Int) = List.getD (DX.D x')
  (2 : Nat) (0 : Int) ∧ List.getD y (3 : Nat) (0 : Int) = List.getD (DX.D x') (3 : Nat) (0 : Int) ∧ List.getD y (4 : Nat) (0 : Int) = List.getD (DX.D x') (4 : Nat) (0 : Int) ∧
  List.getD y (5 : Nat) (0 : Int) = List.getD (DX.D x') (5 : Nat) (0 : Int) ∧ List.getD y (6 : Nat) (0 : Int) = List.getD (DX.D x') (6 : Nat) (0 : Int) ∧ List.getD y (7 : Nat) (0 :
  Int) = List.getD (DX.D x') (7 : Nat) (0 : Int) ∧ List.getD y (8 : Nat) (0 : Int) = List.getD (DX.D x') (8 : Nat) (0 : Int) ∧ List.getD y (9 : Nat) (0 : Int) = List.getD (DX.D x')
  (9 : Nat) (0 : Int) ∧ List.getD y (10 : Nat) (0 : Int) = List.getD (DX.D x') (10 : Nat) (0 : Int) ∧ List.getD y (11 : Nat) (0 : Int) = List.getD (DX.D x') (11 : Nat) (0 : Int) ∧
  List.getD y (12 : Nat) (0 : Int) = List.getD (DX.D x') (12 : Nat) (0 : Int) ∧ List.getD y (13 : Nat) (0 : Int) = List.getD (DX.D x') (13 : Nat) (0 : Int) ∧ List.getD y (14 : Nat)
  (0 : Int) = List.getD (DX.D x') (14 : Nat) (0 : Int) ∧ List.getD y (15 : Nat) (0 : Int) = List.getD (DX.D x') (15 : Nat) (0 : Int) ∧ List.getD y (16 : Nat) (0 : Int) = List.getD
  (DX.D x') (16 : Nat) (0 : Int) ∧ List.getD y (17 : Nat) (0 : Int) = List.getD (DX.D x') (17 : Nat) (0 : Int) ∧ List.getD y (18 : Nat) (0 : Int) = List.getD (DX.D x') (18 : Nat) (0
  : Int) ∧ List.getD y (19 : Nat) (0 : Int) = List.getD (DX.D x') (19 : Nat) (0 : Int) ∧ List.getD y (20 : Nat) (0 : Int) = List.getD (DX.D x') (20 : Nat) (0 : Int) ∧ List.getD y (21
  : Nat) (0 : Int) = List.getD (DX.D x') (21 : Nat) (0 : Int) ∧ List.getD y (22 : Nat) (0 : Int) = List.getD (DX.D x') (22 : Nat) (0 : Int) ∧ List.getD y (23 : Nat) (0 : Int) =
  List.getD (DX.D x') (23 : Nat) (0 : Int) ∧ List.getD y (24 : Nat) (0 : Int) = List.getD (DX.D x') (24 : Nat) (0 : Int) ∧ List.getD y (25 : Nat) (0 : Int) = List.getD (DX.D x') (25
  : Nat) (0 : Int) ∧ List.getD y (26 : Nat) (0 : Int) = List.getD (DX.D x') (26 : Nat) (0 : Int) ∧ List.getD y (27 : Nat) (0 : Int) = List.getD (DX.D x') (27 : Nat) (0 : Int) ∧
  List.getD y (28 : Nat) (0 : Int) = List.getD (DX.D x') (28 : Nat) (0 : Int) ∧ List.getD y (29 : Nat) (0 : Int) = List.getD (DX.D x') (29 : Nat) (0 : Int) ∧ List.getD y (30 : Nat)
  (0 : Int) = List.getD (DX.D x') (30 : Nat) (0 : Int) ∧ List.getD y (31 : Nat) (0 : Int) = List.getD (DX.D x') (31 : Nat) (0 : Int) ∧ True) ∧ True) ∧ (decide ((↑(DX.k x) : Int) <
  (↑(List.length c) : Int)) = false → List.getD (DX.D x) (0 : Nat) (0 : Int) = List.getD z (0 : Nat) (0 : Int) ∧ List.getD (DX.D x) (1 : Nat) (0 : Int) = List.getD z (1 : Nat) (0 :
  Int) ∧ List.getD (DX.D x) (2 : Nat) (0 : Int) = List.getD z (2 : Nat) (0 : Int) ∧ List.getD (DX.D x) (3 : Nat) (0 : Int) = List.getD z (3 : Nat) (0 : Int) ∧ List.getD (DX.D x) (4 :
  Nat) (0 : Int) = List.getD z (4 : Nat) (0 : Int) ∧ List.getD (DX.D x) (5 : Nat) (0 : Int) = List.getD z (5 : Nat) (0 : Int) ∧ List.getD (DX.D x) (6 : Nat) (0 : Int) = List.getD z
  (6 : Nat) (0 : Int) ∧ List.getD (DX.D x) (7 : Nat) (0 : Int) = List.getD z (7 : Nat) (0 : Int) ∧ List.getD (DX.D x) (8 : Nat) (0 : Int) = List.getD z (8 : Nat) (0 : Int) ∧
  List.getD (DX.D x) (9 : Nat) (0 : Int) = List.getD z (9 : Nat) (0 : Int) ∧ List.getD (DX.D x) (10 : Nat) (0 : Int) = List.getD z (10 : Nat) (0 : Int) ∧ List.getD (DX.D x) (11 :
  Nat) (0 : Int) = List.getD z (11 : Nat) (0 : Int) ∧ List.getD (DX.D x) (12 : Nat) (0 : Int) = List.getD z (12 : Nat) (0 : Int) ∧ List.getD (DX.D x) (13 : Nat) (0 : Int) = List.getD
  z (13 : Nat) (0 : Int) ∧ List.getD (DX.D x) (14 : Nat) (0 : Int) = List.getD z (14 : Nat) (0 : Int) ∧ List.getD (DX.D x) (15 : Nat) (0 : Int) = List.getD z (15 : Nat) (0 : Int) ∧
  List.getD (DX.D x) (16 : Nat) (0 : Int) = List.getD z (16 : Nat) (0 : Int) ∧ List.getD (DX.D x) (17 : Nat) (0 : Int) = List.getD z (17 : Nat) (0 : Int) ∧ List.getD (DX.D x) (18 :
  Nat) (0 : Int) = List.getD z (18 : Nat) (0 : Int) ∧ List.getD (DX.D x) (19 : Nat) (0 : Int) = List.getD z (19 : Nat) (0 : Int) ∧ List.getD (DX.D x) (20 : Nat) (0 : Int) = List.getD
  z (20 : Nat) (0 : Int) ∧ List.getD (DX.D x) (21 : Nat) (0 : Int) = List.getD z (21 : Nat) (0 : Int) ∧ List.getD (DX.D x) (22 : Nat) (0 : Int) = List.getD z (22 : Nat) (0 : Int) ∧
  List.getD (DX.D x) (23 : Nat) (0 : Int) = List.getD z (23 : Nat) (0 : Int) ∧ List.getD (DX.D x) (24 : Nat) (0 : Int) = List.getD z (24 : Nat) (0 : Int) ∧ List.getD (DX.D x) (25 :
  Nat) (0 : Int) = List.getD z (25 : Nat) (0 : Int) ∧ List.getD (DX.D x) (26 : Nat) (0 : Int) = List.getD z (26 : Nat) (0 : Int) ∧ List.getD (DX.D x) (27 : Nat) (0 : Int) = List.getD
  z (27 : Nat) (0 : Int) ∧ List.getD (DX.D x) (28 : Nat) (0 : Int) = List.getD z (28 : Nat) (0 : Int) ∧ List.getD (DX.D x) (29 : Nat) (0 : Int) = List.getD z (29 : Nat) (0 : Int) ∧
  List.getD (DX.D x) (30 : Nat) (0 : Int) = List.getD z (30 : Nat) (0 : Int) ∧ List.getD (DX.D x) (31 : Nat) (0 : Int) = List.getD z (31 : Nat) (0 : Int) ∧ True)
  ) := by kernel_rfl
--@end
theorem okV_stack (n : Int) (d : List Int) : OkV (stackV n d) := ⟨by simp [stackV, lisV, numV, bytV, n32, Val.sz, szL]⟩
theorem okV_prog (x : Ins) (d : List Int) : OkV (progV x d) := ⟨by simp [progV, lisV, numV, bytV, n32, Val.sz, szL]⟩
theorem onto_pure (d l : List Int) (hl : l.length ≤ 1000000) : PureC E2 34 [dig32 d, .psl Th.ints l false] (dig32 (ontoF d l)) := by
  refine pure_of_call E2_ok (callOk_of E2_ok Fonto_ok 400) ?_
  rw [cond_onto]
  refine ⟨fun x => ∃ q, q ≤ l.length ∧ x.k = q ∧ x.D = ontoF d (l.take q) ∧ x.r = l.length - q, ⟨⟨0, l.length, d, [], 0, 0, 0, 0⟩, ⟨0, Nat.zero_le _, rfl, rfl, rfl⟩, rfl, ⟨rfl, rfl, ⟨rfl, id⟩, rfl, rfl, trivial⟩, ⟨rfl, rfl, rfl, rfl, rfl, rfl, rfl, rfl, rfl, rfl, rfl, rfl, rfl, rfl, rfl, rfl, rfl, rfl, rfl, rfl, rfl, rfl, rfl, rfl, rfl, rfl, rfl, rfl, rfl, rfl, rfl, rfl, trivial⟩, ⟨rfl, rfl, rfl, rfl, rfl, rfl, rfl, rfl, rfl, rfl, rfl, rfl, rfl, rfl, rfl, rfl, rfl, rfl, rfl, rfl, rfl, rfl, rfl, rfl, rfl, rfl, rfl, rfl, rfl, rfl, rfl, rfl, trivial⟩, trivial⟩, ?_⟩
  rintro x ⟨q, hq1, hq2, hq3, hq4⟩
  refine And.intro (fun h => ?_) (fun h => ?_)
  · have h := of_decide_eq_true h
    refine ⟨by omega, by omega, fun n hn => ⟨⟨by omega, okV_stack n x.D⟩, fun y hy => ⟨⟨q + 1, l.length - (q + 1), y, [], 0, 0, 0, 0⟩, ⟨q + 1, by omega, rfl, ?_, rfl⟩, by show l.length - (q + 1) + 1 ≤ x.r; omega, rfl, ⟨rfl, rfl, ⟨rfl, id⟩, rfl, ?_, trivial⟩, ⟨rfl, rfl, rfl, rfl, rfl, rfl, rfl, rfl, rfl, rfl, rfl, rfl, rfl, rfl, rfl, rfl, rfl, rfl, rfl, rfl, rfl, rfl, rfl, rfl, rfl, rfl, rfl, rfl, rfl, rfl, rfl, rfl, trivial⟩, ⟨rfl, rfl, rfl, rfl, rfl, rfl, rfl, rfl, rfl, rfl, rfl, rfl, rfl, rfl, rfl, rfl, rfl, rfl, rfl, rfl, rfl, rfl, rfl, rfl, rfl, rfl, rfl, rfl, rfl, rfl, rfl, rfl, trivial⟩, trivial⟩⟩⟩
    · have hn : l[q]? = some n := by rw [← hq2]; exact hn
      have hy : y = hashF 0 (stackV n x.D) := hy
      show y = _
      rw [take_get hn, ontoF, List.foldl_append, hy, hq3]; rfl
    · show wr .i64 ((x.k : Int) + 1) = ((q + 1 : Nat) : Int)
      rw [hq2, wr64 (by omega) (by omega)]; omega
  · have h := of_decide_eq_false h
    obtain rfl : q = l.length := by omega
    rw [List.take_length] at hq3
    rw [hq3]
    exact ⟨rfl, rfl, rfl, rfl, rfl, rfl, rfl, rfl, rfl, rfl, rfl, rfl, rfl, rfl, rfl, rfl, rfl, rfl, rfl, rfl, rfl, rfl, rfl, rfl, rfl, rfl, rfl, rfl, rfl, rfl, rfl, rfl, trivial⟩
theorem prog_pure (c : List Ins) (hl : c.length ≤ 1000000) : PureC E2 38 [.psl Th.ins c false] (dig32 (progF c)) := by
  refine pure_of_call E2_ok (callOk_of E2_ok Fonto_ok 400) ?_
  rw [cond_prog]
  refine ⟨fun x => ∃ q, q ≤ c.length ∧ x.k = q ∧ x.D = progF (c.take q) ∧ x.r = c.length - q, ⟨⟨0, c.length, zero32, [], 0, 0, 0, 0⟩, ⟨0, Nat.zero_le _, rfl, rfl, rfl⟩, rfl, ⟨rfl, ⟨rfl, id⟩, rfl, rfl, trivial⟩, ⟨rfl, rfl, rfl, rfl, rfl, rfl, rfl, rfl, rfl, rfl, rfl, rfl, rfl, rfl, rfl, rfl, rfl, rfl, rfl, rfl, rfl, rfl, rfl, rfl, rfl, rfl, rfl, rfl, rfl, rfl, rfl, rfl, trivial⟩, trivial⟩, ?_⟩
  rintro x ⟨q, hq1, hq2, hq3, hq4⟩
  refine And.intro (fun h => ?_) (fun h => ?_)
  · have h := of_decide_eq_true h
    refine ⟨by omega, by omega, fun n hn => ⟨⟨by omega, okV_prog n x.D⟩, fun y hy => ⟨⟨q + 1, c.length - (q + 1), y, [], 0, 0, 0, 0⟩, ⟨q + 1, by omega, rfl, ?_, rfl⟩, by show c.length - (q + 1) + 1 ≤ x.r; omega, rfl, ⟨rfl, ⟨rfl, id⟩, rfl, ?_, trivial⟩, ⟨rfl, rfl, rfl, rfl, rfl, rfl, rfl, rfl, rfl, rfl, rfl, rfl, rfl, rfl, rfl, rfl, rfl, rfl, rfl, rfl, rfl, rfl, rfl, rfl, rfl, rfl, rfl, rfl, rfl, rfl, rfl, rfl, trivial⟩, trivial⟩⟩⟩
    · have hn : c[q]? = some n := by rw [← hq2]; exact hn
      have hy : y = hashF 1 (progV n x.D) := hy
      show y = _
      rw [take_get hn, progF, List.foldl_append, hy, hq3]; rfl
    · show wr .i64 ((x.k : Int) + 1) = ((q + 1 : Nat) : Int)
      rw [hq2, wr64 (by omega) (by omega)]; omega
  · have h := of_decide_eq_false h
    obtain rfl : q = c.length := by omega
    rw [List.take_length] at hq3
    rw [hq3]
    exact ⟨rfl, rfl, rfl, rfl, rfl, rfl, rfl, rfl, rfl, rfl, rfl, rfl, rfl, rfl, rfl, rfl, rfl, rfl, rfl, rfl, rfl, rfl, rfl, rfl, rfl, rfl, rfl, rfl, rfl, rfl, rfl, rfl, trivial⟩
end Go.Proofs.YtcaomfbcchemnabDoor

/- Chapter 21: TvmChains. -/
namespace Go.Proofs.YtcaomfbcchemnabDoor
open Go
set_option linter.unusedVariables false
set_option linter.unusedSimpArgs false
def dIntsE (E : Eng thy) : Dc E (List Int) := (dList (E := E) Th.ints : Dc E (List (thy.dom Th.ints)))
def dInss (E : Eng thy) : Dc E (List Ins) := (dList (E := E) Th.ins : Dc E (List (thy.dom Th.ins)))
/-- a digest as an argument -/
def dDig (E : Eng thy) : Dc E (List Int) where
  dec v := match v with | .agg cs => (match numsOf .u8 cs with | some l => (match Nat.beq l.length 32 with | true => some l | false => none) | none => none) | _ => none
  enc d := dig32 d
  ok v l h := by
    split at h
    · rename_i cs
      split at h
      · rename_i l' hl
        split at h
        · rename_i hlen
          cases h
          have hlen := Nat.eq_of_beq_eq_true hlen
          have e : dig32 l = rowV .u8 l := by
            match l, hlen with
            | [a0, a1, a2, a3, a4, a5, a6, a7, a8, a9, a10, a11, a12, a13, a14, a15, a16, a17, a18, a19, a20, a21, a22, a23, a24, a25, a26, a27, a28, a29, a30, a31], _ => rfl
          rw [e]
          exact (dNums E .u8).ok (.agg cs) l hl
        · cases h
      · cases h
    · cases h
noncomputable def Sonto : Sum thy := sumFY E2 gthV 4 (.cons (dDig E2) (.cons (dIntsE E2) .nil)) (fun x => x.2.1.length ≤ 1000000) (fun x => ontoF x.1 x.2.1) dig32
theorem Sonto_ok : SumOk E2 34 Sonto := sumFY_ok E2_ok (good_of (f := 34) rfl) fun x h => onto_pure x.1 x.2.1 h
noncomputable def Fstk : Fns thy := addS F0 34 Sonto
theorem Fstk_ok : FnsOk E2 Fstk := addS_ok F0_ok2 Sonto_ok
--@cond stack | 22 | E2:Fstk | 400 | (l : List Int) | [.psl Th.ints l false] | (z : List Int) | dig32 z
theorem cond_stack (l : List Int) (z : List Int) : callF E2 Fstk (vc E2 Fstk 400) 22 [.psl Th.ints l false] hp0 0 (fun r => ret E2 (patch hp0 0 r) r.v (dig32 z)) = (
  List.length l ≤ (1000000 : Nat) ∧ ∀ (y : List Int), y = ontoF [(0 : Int), (0 : Int), (0 : Int), (0 : Int), (0 : Int), (0 : Int), (0 : Int), (0 : Int), (0 : Int), (0 : Int), (0 :
  Int), (0 : Int), (0 : Int), (0 : Int), (0 : Int), (0 : Int), (0 : Int), (0 : Int), (0 : Int), (0 : Int), (0 : Int), (0 : Int), (0 : Int), (0 : Int), (0 : Int), (0 : Int), (0 :
  Int), (0 : Int), (0 : Int), (0 : Int), (0 : Int), (0 : Int)] l → List.getD y (0 : Nat) (0 : Int) = List.getD z (0 : Nat) (0 : Int) ∧ List.getD y (1 : Nat) (0 : Int) = List.getD z
  (1 : Nat) (0 : Int) ∧ List.getD y (2 : Nat) (0 : Int) = List.getD z (2 : Nat) (0 : Int) ∧ List.getD y (3 : Nat) (0 : Int) = List.getD z (3 : Nat) (0 : Int) ∧ List.getD y (4 : Nat)
  (0 : Int) = List.getD z (4 : Nat) (0 : Int) ∧ List.getD y (5 : Nat) (0 : Int) = List.getD z (5 : Nat) (0 : Int) ∧ List.getD y (6 : Nat) (0 : Int) = List.getD z (6 : Nat) (0 : Int)
  ∧ List.getD y (7 : Nat) (0 : Int) = List.getD z (7 : Nat) (0 : Int) ∧ List.getD y (8 : Nat) (0 : Int) = List.getD z (8 : Nat) (0 : Int) ∧ List.getD y (9 : Nat) (0 : Int) =
  List.getD z (9 : Nat) (0 : Int) ∧ List.getD y (10 : Nat) (0 : Int) = List.getD z (10 : Nat) (0 : Int) ∧ List.getD y (11 : Nat) (0 : Int) = List.getD z (11 : Nat) (0 : Int) ∧
  List.getD y (12 : Nat) (0 : Int) = List.getD z (12 : Nat) (0 : Int) ∧ List.getD y (13 : Nat) (0 : Int) = List.getD z (13 : Nat) (0 : Int) ∧ List.getD y (14 : Nat) (0 : Int) =
  List.getD z (14 : Nat) (0 : Int) ∧ List.getD y (15 : Nat) (0 : Int) = List.getD z (15 : Nat) (0 : Int) ∧ List.getD y (16 : Nat) (0 : Int) = List.getD z (16 : Nat) (0 : Int) ∧
  List.getD y (17 : Nat) (0 : Int) = List.getD z (17 : Nat) (0 : Int) ∧ List.getD y (18 : Nat) (0 : Int) = List.getD z (18 : Nat) (0 : Int) ∧ List.getD y (19 : Nat) (0 : Int) =
  List.getD z (19 : Nat) (0 : Int) ∧ List.getD y (20 : Nat) (0 : Int) = List.getD z (20 : Nat) (0 : Int) ∧ List.getD y (21 : Nat) (0 : Int) = List.getD z (21 : Nat) (0 : Int) ∧
  List.getD y (22 : Nat) (0 : Int) = List.getD z (22 : Nat) (0 : Int) ∧ List.getD y (23 : Nat) (0 : Int) = List.getD z (23 : Nat) (0 : Int) ∧ List.getD y (24 : Nat) (0 : Int) =
  List.getD z (24 : Nat) (0 : Int) ∧ List.getD y (25 : Nat) (0 : Int) = List.getD z (25 : Nat) (0 : Int) ∧ List.getD y (26 : Nat) (0 : Int) = List.getD z (26 : Nat) (0 : Int) ∧
  List.getD y (27 : Nat) (0 : Int) = List.getD z (27 : Nat) (0 : Int) ∧ List.getD y (28 : Nat) (0 : Int) = List.getD z (28 : Nat) (0 : Int) ∧ List.getD y (29 : Nat) (0 : Int) =
  List.getD z (29 : Nat) (0 : Int) ∧ List.getD y (30 : Nat) (0 : Int) = List.getD z (30 : Nat) (0 : Int) ∧ List.getD y (31 : Nat) (0 : Int) = List.getD z (31 : Nat) (0 : Int) ∧ True
  ) := by kernel_rfl
--@end
theorem stack_pure (l : List Int) (hl : l.length ≤ 1000000) : PureC E2 22 [.psl Th.ints l false] (dig32 (stackF l)) := by
  refine pure_of_call E2_ok (callOk_of E2_ok Fstk_ok 400) ?_
  rw [cond_stack]
  refine ⟨hl, fun y hy => ?_⟩
  rw [hy]
  exact ⟨rfl, rfl, rfl, rfl, rfl, rfl, rfl, rfl, rfl, rfl, rfl, rfl, rfl, rfl, rfl, rfl, rfl, rfl, rfl, rfl, rfl, rfl, rfl, rfl, rfl, rfl, rfl, rfl, rfl, rfl, rfl, rfl, trivial⟩
noncomputable def Sstk : Sum thy := sumFY E2 gthV 4 (.cons (dIntsE E2) .nil) (fun x => x.1.length ≤ 1000000) (fun x => stackF x.1) dig32
theorem Sstk_ok : SumOk E2 22 Sstk := sumFY_ok E2_ok (good_of (f := 22) rfl) fun x h => stack_pure x.1 h
noncomputable def Sprg : Sum thy := sumFY E2 gthV 4 (.cons (dInss E2) .nil) (fun x => x.1.length ≤ 1000000) (fun x => progF x.1) dig32
theorem Sprg_ok : SumOk E2 38 Sprg := sumFY_ok E2_ok (good_of (f := 38) rfl) fun x h => prog_pure x.1 h
noncomputable def SsaneU : Sum thy := sumP (.nil (E := E2)) (fun _ => True) fun _ => .bool false true
theorem SsaneU_ok : SumOk E2 5 SsaneU := sumP_ok E2_ok (good_of (f := 5) rfl) fun x _ => up2 sane_pure
--@end
def eq32 (a b : List Int) : Bool := (List.getD a 0 0 == List.getD b 0 0 && (List.getD a 1 0 == List.getD b 1 0 && (List.getD a 2 0 == List.getD b 2 0 && (List.getD a 3 0 == List.getD b 3 0 && (List.getD a 4 0 == List.getD b 4 0 && (List.getD a 5 0 == List.getD b 5 0 && (List.getD a 6 0 == List.getD b 6 0 && (List.getD a 7 0 == List.getD b 7 0 && (List.getD a 8 0 == List.getD b 8 0 && (List.getD a 9 0 == List.getD b 9 0 && (List.getD a 10 0 == List.getD b 10 0 && (List.getD a 11 0 == List.getD b 11 0 && (List.getD a 12 0 == List.getD b 12 0 && (List.getD a 13 0 == List.getD b 13 0 && (List.getD a 14 0 == List.getD b 14 0 && (List.getD a 15 0 == List.getD b 15 0 && (List.getD a 16 0 == List.getD b 16 0 && (List.getD a 17 0 == List.getD b 17 0 && (List.getD a 18 0 == List.getD b 18 0 && (List.getD a 19 0 == List.getD b 19 0 && (List.getD a 20 0 == List.getD b 20 0 && (List.getD a 21 0 == List.getD b 21 0 && (List.getD a 22 0 == List.getD b 22 0 && (List.getD a 23 0 == List.getD b 23 0 && (List.getD a 24 0 == List.getD b 24 0 && (List.getD a 25 0 == List.getD b 25 0 && (List.getD a 26 0 == List.getD b 26 0 && (List.getD a 27 0 == List.getD b 27 0 && (List.getD a 28 0 == List.getD b 28 0 && (List.getD a 29 0 == List.getD b 29 0 && (List.getD a 30 0 == List.getD b 30 0 && (List.getD a 31 0 == List.getD b 31 0 && true))))))))))))))))))))))))))))))))
theorem eq32_self (a : List Int) : eq32 a a = true := by simp [eq32]
theorem cmp32 {a b : List Int} {X : Prop} {v : Bool} (hv : v = eq32 a b) (e : a = b) (hX : X) : (v = true → X) ∧ (v = false → false = true) := by
  rw [e, eq32_self] at hv
  rw [hv]
  exact ⟨fun _ => hX, fun h => by cases h⟩
end Go.Proofs.YtcaomfbcchemnabDoor

/- Chapter 21: the laid table of the digests. -/
namespace Go.Proofs.YtcaomfbcchemnabDoor
open Go.ChangeShapes Go.WideShapes Go.ChangeAt Go.RowKit
set_option linter.unusedVariables false
set_option linter.unusedSimpArgs false
theorem one_intD {H : Type} {enc : TypeId × Value → H} {P : Program} {w : World} {spare : Nat → Bool} {held : Bool} {fuel : Nat} {t : TypeId} {cs : List Value} {k k' : IntKind} {n : Int} {p : List MemPlace} (ht : P.underlying t = some (.int k))
    (h : DataW.trod enc P w 0 spare held fuel t cs = some (.lit (.int k' n), p)) : cs = [.int k' n] := by
  cases fuel with
  | zero => simp [DataW.trod] at h
  | succ m =>
    unfold DataW.trod at h
    rw [ht] at h
    split at h <;> simp_all
theorem gDig : Tryd.prog.globalNamed "wagonpool/digest.k" = some 2 := by kernel_rfl
theorem tDig : (Tryd.prog.globals[2]?).map (·.type) = some 178 := by kernel_rfl
theorem cellsU32 : Tryd.prog.cellsOf 156 = 1 := by kernel_rfl
abbrev laidB2 : List (String × DataW Unit) := [("wagonpool/digest.k", Rows.laid_wagonpool_digest_k), ("wagonpool/tvm.binaries", Rows.laid_wagonpool_tvm_binaries)]
theorem laidB2_sub {W : World} (h : laidMetH Tryd.prog laidB2 W) : laidMetH Tryd.prog laidB W := laidMetH.filter (fun x => x.1 == "wagonpool/tvm.binaries") h
theorem laidB2_k {W : World} (h : laidMetH Tryd.prog laidB2 W) : laidMetH Tryd.prog [("wagonpool/digest.k", Rows.laid_wagonpool_digest_k)] W := laidMetH.filter (fun x => x.1 == "wagonpool/digest.k") h
set_option maxRecDepth 100000 in
theorem k_data : (Rows.laid_wagonpool_digest_k : DataW Unit) = .agg (kNums.map fun n => .lit (.int .u32 n)) := rfl
set_option maxRecDepth 100000 in
theorem k_sv : kSV = .agg (kNums.map fun n => .int true .u32 n) := rfl
theorem of_laidK {W : World} (h : laidMetH Tryd.prog laidB2 W) (j : Nat) (s : SV thy) (hj : kSV.cells[j]? = some s) : ∃ v, W.cell? ⟨2, j, none⟩ = some v ∧ Den E2 (fun _ => none) (gTop W) s v := by
  have h0 : laidMet Tryd.prog [("wagonpool/digest.k", Rows.laid_wagonpool_digest_k)] W := laidB2_k h
  obtain ⟨ps, ⟨g, t, cs, fuel, p, q, hg, ht, hv, hd, _, _⟩, _⟩ := h0
  obtain rfl := Option.some.inj (gDig.symm.trans hg)
  obtain rfl := Option.some.inj (tDig.symm.trans ht)
  rw [k_data] at hd
  obtain ⟨xs, m, rfl, hx, hl, hxl, hf⟩ := DataW.trod_array Tryd.underlying178 hd
  simp only [Prod.mk.injEq, DataW.agg.injEq] at hx
  rw [k_sv] at hj
  have hj : (kNums.map fun n => (SV.int true .u32 n : SV thy))[j]? = some s := hj
  rw [List.getElem?_map] at hj
  obtain ⟨n, hn, rfl⟩ := Option.map_eq_some_iff.1 hj
  have hj64 : j < 64 := (List.getElem?_eq_some_iff.1 hn).1
  have h1 := hf j hj64
  have h2 : (xs.map (·.1))[j]? = some (.lit (.int .u32 n)) := by rw [← hx.1, List.getElem?_map, hn]; rfl
  rw [List.getElem?_map] at h2
  obtain ⟨x, hx1, hx2⟩ := Option.map_eq_some_iff.1 h2
  rw [hx1, cellsU32, Nat.mul_one] at h1
  obtain ⟨d, p'⟩ := x
  obtain rfl : d = _ := hx2
  have h3 := one_intD Tryd.underlying156 h1
  refine ⟨.int .u32 n, ?_, .int _ _ _⟩
  rw [World.var?_cell hg hv j]
  have h4 : ((cs.toList.drop j).take 1)[0]? = some (.int .u32 n) := by rw [h3]; rfl
  rw [List.getElem?_take, if_pos (by decide), List.getElem?_drop] at h4
  simpa using h4
set_option maxRecDepth 100000 in
theorem law_calls2 {f : FuncId} {args : List (SV thy)} (hp : PureC E2 f args (.bool false true)) {W : World} (hL : laidMetH Tryd.prog laidB2 W) {vals : Array Value} (hd : DenL E σ0 (gTop W) args vals.toList) : Calls Tryd.prog f vals W fun en W' => en = .returned (.bool true) ∧ Ext W W' := by
  have hI : Inv E2 W.heap.size σ0 hp0 (gTop W) W := inv_top fun n sv hn j s hj => by
    match n, hn with
    | 2, hn =>
      cases hn
      exact of_laidK hL j s hj
    | 0, hn =>
      cases hn
      match j, hj with
      | 0, hj => cases hj; obtain ⟨v, h1, h2⟩ := of_laid (laidB2_sub hL); exact ⟨v, h1, h2.like (like_glob E globT2).1⟩
  refine (hp _ W vals hI ⟨hd.1, fun j sv u h1 h2 => (hd.2 j sv u h1 h2).like (like_glob E globT2).1⟩).mono ?_
  rintro en w' ⟨u, rfl, g', hS, _, hv⟩
  cases hv
  exact ⟨rfl, ext_of_stp hS⟩
section
variable {H : Type} {enc : TypeId × Value → H} {w : World} {spare : Nat → Bool} {held : Bool}
end
set_option maxRecDepth 100000 in
theorem door_met2 (os : Os) (args : Array Value) : laidMetH Tryd.prog laidB2 ((World.doorLaid Tryd.prog 600 os).forCall (fun _ _ => 0) ⟨#[], args, []⟩).memory :=
  laidMetH_of_parts3 (fuel := 8) (laidMet_of_run' 8 (by kernel_rfl) (by kernel_rfl)) (by kernel_rfl) (by kernel_rfl)
end Go.Proofs.YtcaomfbcchemnabDoor

/- Openings: Open, StepOpen. -/
namespace Go.Proofs.YtcaomfbcchemnabDoor
open Go
set_option linter.unusedVariables false
set_option linter.unusedSimpArgs false
def Opn.st (o : Opn) : St := ⟨o.pc, o.fuel, o.status, o.clause, o.top⟩
noncomputable def openF (s : St) (n : Int) : Opn := ⟨s.pc, s.fuel, s.status, s.clause, s.stack.drop (s.stack.length - (min (max n 0) s.stack.length).toNat), ((s.stack.length - (min (max n 0) s.stack.length).toNat : Nat) : Int), stackF (s.stack.take (s.stack.length - (min (max n 0) s.stack.length).toNat))⟩
def zeroOpn : Opn := ⟨0, 0, 0, 0, [], 0, zero32⟩
def stepOpenF (c : List Ins) (v : Env) (o : Opn) : Opn × Int :=
  if readyF c o.st o.depth ≠ 0 then (zeroOpn, readyF c o.st o.depth)
  else if 0 < o.fuel ∧ 0 < o.depth ∧ (o.top.length : Int) < needsF (match c[o.pc.toNat]? with | some x => x.op | none => 0) then (zeroOpn, 390)
  else (⟨(advF c v o.st o.depth).pc, (advF c v o.st o.depth).fuel, (advF c v o.st o.depth).status, (advF c v o.st o.depth).clause, (advF c v o.st o.depth).stack, o.depth, o.rest⟩, 0)
def opnV (o : Opn) : SV thy := .agg (encF false .opns o)
noncomputable def Fopn : Fns thy := addS F0 22 Sstk
theorem Fopn_ok : FnsOk E2 Fopn := addS_ok F0_ok2 Sstk_ok
--@cond open | 7 | E2:Fopn | 400 | (s : St) (n : Int) | [stV s, .int false .i64 n] | (z : Opn) | opnV z
theorem cond_open (s : St) (n : Int) (z : Opn) : callF E2 Fopn (vc E2 Fopn 400) 7 [stV s, .int false .i64 n] hp0 0 (fun r => ret E2 (patch hp0 0 r) r.v (opnV z)) = (
  ((0 : Int) ≤ wr IntKind.i64 ((↑(List.length (St.stack s)) : Int) - mm2 false (mm2 true n (0 : Int)) (↑(List.length (St.stack s)) : Int)) ∧ wr IntKind.i64 ((↑(List.length (St.stack
  s)) : Int) - mm2 false (mm2 true n (0 : Int)) (↑(List.length (St.stack s)) : Int)) ≤ (↑(List.length (St.stack s)) : Int)) ∧ ((0 : Int) ≤ wr IntKind.i64 ((↑(List.length (St.stack
  s)) : Int) - mm2 false (mm2 true n (0 : Int)) (↑(List.length (St.stack s)) : Int)) ∧ wr IntKind.i64 ((↑(List.length (St.stack s)) : Int) - mm2 false (mm2 true n (0 : Int))
  (↑(List.length (St.stack s)) : Int)) ≤ (↑(List.length (St.stack s)) : Int)) ∧ List.length (List.take (Int.toNat (wr IntKind.i64 ((↑(List.length (St.stack s)) : Int) - mm2 false
  (mm2 true n (0 : Int)) (↑(List.length (St.stack s)) : Int)))) (St.stack s)) ≤ (1000000 : Nat) ∧ ∀ (y : List Int), y = stackF (List.take (Int.toNat (wr IntKind.i64 ((↑(List.length
  (St.stack s)) : Int) - mm2 false (mm2 true n (0 : Int)) (↑(List.length (St.stack s)) : Int)))) (St.stack s)) → St.pc s = Opn.pc z ∧ St.fuel s = Opn.fuel z ∧ St.status s =
  Opn.status z ∧ St.clause s = Opn.clause z ∧ (List.drop (Int.toNat (wr IntKind.i64 ((↑(List.length (St.stack s)) : Int) - mm2 false (mm2 true n (0 : Int)) (↑(List.length (St.stack
  s)) : Int)))) (St.stack s) = Opn.top z ∧ (false = true → false = true)) ∧ wr IntKind.i64 ((↑(List.length (St.stack s)) : Int) - mm2 false (mm2 true n (0 : Int)) (↑(List.length
  (St.stack s)) : Int)) = Opn.depth z ∧ List.getD y (0 : Nat) (0 : Int) = List.getD (Opn.rest z) (0 : Nat) (0 : Int) ∧ List.getD y (1 : Nat) (0 : Int) = List.getD (Opn.rest z) (1 :
  Nat) (0 : Int) ∧ List.getD y (2 : Nat) (0 : Int) = List.getD (Opn.rest z) (2 : Nat) (0 : Int) ∧ List.getD y (3 : Nat) (0 : Int) = List.getD (Opn.rest z) (3 : Nat) (0 : Int) ∧
  List.getD y (4 : Nat) (0 : Int) = List.getD (Opn.rest z) (4 : Nat) (0 : Int) ∧ List.getD y (5 : Nat) (0 : Int) = List.getD (Opn.rest z) (5 : Nat) (0 : Int) ∧ List.getD y (6 : Nat)
  (0 : Int) = List.getD (Opn.rest z) (6 : Nat) (0 : Int) ∧ List.getD y (7 : Nat) (0 : Int) = List.getD (Opn.rest z) (7 : Nat) (0 : Int) ∧ List.getD y (8 : Nat) (0 : Int) = List.getD
  (Opn.rest z) (8 : Nat) (0 : Int) ∧ List.getD y (9 : Nat) (0 : Int) = List.getD (Opn.rest z) (9 : Nat) (0 : Int) ∧ List.getD y (10 : Nat) (0 : Int) = List.getD (Opn.rest z) (10 :
  Nat) (0 : Int) ∧ List.getD y (11 : Nat) (0 : Int) = List.getD (Opn.rest z) (11 : Nat) (0 : Int) ∧ List.getD y (12 : Nat) (0 : Int) = List.getD (Opn.rest z) (12 : Nat) (0 : Int) ∧
  List.getD y (13 : Nat) (0 : Int) = List.getD (Opn.rest z) (13 : Nat) (0 : Int) ∧ List.getD y (14 : Nat) (0 : Int) = List.getD (Opn.rest z) (14 : Nat) (0 : Int) ∧ List.getD y (15 :
  Nat) (0 : Int) = List.getD (Opn.rest z) (15 : Nat) (0 : Int) ∧ List.getD y (16 : Nat) (0 : Int) = List.getD (Opn.rest z) (16 : Nat) (0 : Int) ∧ List.getD y (17 : Nat) (0 : Int) =
  List.getD (Opn.rest z) (17 : Nat) (0 : Int) ∧ List.getD y (18 : Nat) (0 : Int) = List.getD (Opn.rest z) (18 : Nat) (0 : Int) ∧ List.getD y (19 : Nat) (0 : Int) = List.getD
  (Opn.rest z) (19 : Nat) (0 : Int) ∧ List.getD y (20 : Nat) (0 : Int) = List.getD (Opn.rest z) (20 : Nat) (0 : Int) ∧ List.getD y (21 : Nat) (0 : Int) = List.getD (Opn.rest z) (21 :
  Nat) (0 : Int) ∧ List.getD y (22 : Nat) (0 : Int) = List.getD (Opn.rest z) (22 : Nat) (0 : Int) ∧ List.getD y (23 : Nat) (0 : Int) = List.getD (Opn.rest z) (23 : Nat) (0 : Int) ∧
  List.getD y (24 : Nat) (0 : Int) = List.getD (Opn.rest z) (24 : Nat) (0 : Int) ∧ List.getD y (25 : Nat) (0 : Int) = List.getD (Opn.rest z) (25 : Nat) (0 : Int) ∧ List.getD y (26 :
  Nat) (0 : Int) = List.getD (Opn.rest z) (26 : Nat) (0 : Int) ∧ List.getD y (27 : Nat) (0 : Int) = List.getD (Opn.rest z) (27 : Nat) (0 : Int) ∧ List.getD y (28 : Nat) (0 : Int) =
  List.getD (Opn.rest z) (28 : Nat) (0 : Int) ∧ List.getD y (29 : Nat) (0 : Int) = List.getD (Opn.rest z) (29 : Nat) (0 : Int) ∧ List.getD y (30 : Nat) (0 : Int) = List.getD
  (Opn.rest z) (30 : Nat) (0 : Int) ∧ List.getD y (31 : Nat) (0 : Int) = List.getD (Opn.rest z) (31 : Nat) (0 : Int) ∧ True
  ) := by kernel_rfl
--@end
--@cond ready | 24 | F6 | 400 | (c : List Ins) (s : St) (below : Int) | [.psl .ins c false, stV s, .int false .i64 below] | (e : Int) | .int false .i64 e
theorem cond_ready (c : List Ins) (s : St) (below : Int) (e : Int) : callF E F6 (vc E F6 400) 24 [.psl .ins c false, stV s, .int false .i64 below] hp0 0 (fun r => ret E (patch hp0 0 r) r.v (.int false .i64 e)) = (
  ((St.status s != (0 : Int)) = true → (211 : Int) = e) ∧ ((St.status s != (0 : Int)) = false → True ∧ ((Prod.snd (verF c) != (0 : Int)) = true → Prod.snd (verF c) = e) ∧ ((Prod.snd
  (verF c) != (0 : Int)) = false → ∃ (Q : Bool → Prop), ((decide (St.pc s < (0 : Int)) = true → Q true) ∧ (decide (St.pc s < (0 : Int)) = false → (decide (St.pc s ≥ (↑(List.length c)
  : Int)) = true → Q true) ∧ (decide (St.pc s ≥ (↑(List.length c) : Int)) = false → (decide (St.fuel s < (0 : Int)) = true → Q true) ∧ (decide (St.fuel s < (0 : Int)) = false →
  (decide (St.fuel s > (32768 : Int)) = true → Q true) ∧ (decide (St.fuel s > (32768 : Int)) = false → ((St.clause s != (0 : Int)) = true → Q true) ∧ ((St.clause s != (0 : Int)) =
  false → (decide (below < (0 : Int)) = true → Q true) ∧ (decide (below < (0 : Int)) = false → (decide (below > (64 : Int)) = true → Q true) ∧ (decide (below > (64 : Int)) = false →
  (decide ((↑(List.length (St.stack s)) : Int) > wr IntKind.i64 ((64 : Int) - below)) = true → Q true) ∧ (decide ((↑(List.length (St.stack s)) : Int) > wr IntKind.i64 ((64 : Int) -
  below)) = false → Q false))))))))) ∧ (Q true → (1 : Int) = e) ∧ (Q false → (0 : Int) = e)))
  ) := by kernel_rfl
--@end
theorem ready_pure (c : List Ins) (s : St) (below : Int) : PureC E 24 [.psl .ins c false, stV s, .int false .i64 below] (.int false .i64 (readyF c s below)) := by
  refine pure_of_call E_ok (callOk_of E_ok F6_ok 400) ?_
  rw [cond_ready]
  simp only [bif_true, bif_false, bif_nt, bif_tf, bif_ft, beq_iff_eq, bne_iff_ne, beq_eq_false_iff_ne, bne_eq_false_iff_eq, decide_eq_true_eq, decide_eq_false_iff_not, Bool.or_eq_true, Bool.or_eq_false_iff, Bool.not_eq_true', Bool.not_eq_false', Bool.and_eq_true, Bool.and_true, Bool.true_and, Bool.and_eq_false_iff, beq_self_eq_true, mm2_max, mm2_min, ne_eq, and_true, true_and, Bool.true_eq_false, Bool.false_eq_true, false_or, or_false, true_implies, imp_self, Int.ofNat_eq_natCast, not_true_eq_false, not_false_eq_true, Decidable.not_not]
  unfold readyF
  refine ⟨fun h => by rw [if_pos h], fun h => ⟨fun h2 => by rw [if_neg (by simpa using h), if_pos h2], fun h2 => ?_⟩⟩
  rw [if_neg (by simpa using h), if_neg (by simpa using h2)]
  refine ⟨fun b => (b = true ↔ (s.pc < 0 ∨ c.length ≤ s.pc ∨ s.fuel < 0 ∨ 32768 < s.fuel ∨ s.clause ≠ 0 ∨ below < 0 ∨ 64 < below ∨ 64 - below < s.stack.length)), ?_, fun hQ => ?_, fun hQ => ?_⟩
  · have e : ¬ below < 0 → ¬ 64 < below → wr .i64 (64 - below) = 64 - below := fun _ _ => wr64 (by omega) (by omega)
    repeat' (first | (refine And.intro ?_ ?_) | (intro h))
    all_goals simp only [eq_self, true_iff, Bool.false_eq_true, false_iff]
    all_goals first | omega | (rename_i h1 h2 h3; rw [e (by omega) (by omega)] at h3; omega)
  · rw [if_pos (hQ.1 rfl)]
  · rw [if_neg (fun h => absurd (hQ.2 h) (by simp))]
noncomputable def Sready : Sum thy := sumP (dL3 dCode dSt dI) (fun _ => True) fun x => .int false .i64 (readyF x.1 x.2.1 x.2.2.1)
noncomputable def F6r : Fns thy := addS F6 24 Sready
theorem F6r_ok : FnsOk E F6r := addS_ok F6_ok (sumP_ok E_ok (good_of (f := 24) rfl) fun x _ => ready_pure x.1 x.2.1 x.2.2.1)
theorem open_pure (s : St) (n : Int) (hs : s.stack.length ≤ 1000000) : PureC E2 7 [stV s, .int false .i64 n] (opnV (openF s n)) := by
  refine pure_of_call E2_ok (callOk_of E2_ok Fopn_ok 400) ?_
  rw [cond_open]
  simp only [mm2_max, mm2_min]
  have e : wr .i64 ((s.stack.length : Int) - min (max n 0) (s.stack.length : Int)) = ((s.stack.length - (min (max n 0) s.stack.length).toNat : Nat) : Int) := by
    rw [wr64 (by omega) (by omega)]; omega
  rw [e, Int.toNat_natCast]
  refine ⟨⟨by omega, by omega⟩, ⟨by omega, by omega⟩, by rw [List.length_take]; omega, fun y hy => ?_⟩
  rw [hy]
  exact ⟨rfl, rfl, rfl, rfl, ⟨rfl, id⟩, rfl, rfl, rfl, rfl, rfl, rfl, rfl, rfl, rfl, rfl, rfl, rfl, rfl, rfl, rfl, rfl, rfl, rfl, rfl, rfl, rfl, rfl, rfl, rfl, rfl, rfl, rfl, rfl, rfl, rfl, rfl, rfl, rfl, trivial⟩
--@cond stepopen | 11 | F6r | 400 | (c : List Ins) (v : Env) (o : Opn) | [.psl .ins c false, envV v, opnV o] | (z : Opn) (e : Int) | .tup [opnV z, .int false .i64 e]
theorem cond_stepopen (c : List Ins) (v : Env) (o : Opn) (z : Opn) (e : Int) : callF E F6r (vc E F6r 400) 11 [.psl .ins c false, envV v, opnV o] hp0 0 (fun r => ret E (patch hp0 0 r) r.v (.tup [opnV z, .int false .i64 e])) = (
  True ∧ ((readyF c (St.mk (Opn.pc o) (Opn.fuel o) (Opn.status o) (Opn.clause o) (Opn.top o)) (Opn.depth o) != (0 : Int)) = true → ((0 : Int) = Opn.pc z ∧ (0 : Int) = Opn.fuel z ∧ (0
  : Int) = Opn.status z ∧ (0 : Int) = Opn.clause z ∧ Opn.top z = [] ∧ (0 : Int) = Opn.depth z ∧ (0 : Int) = List.getD (Opn.rest z) (0 : Nat) (0 : Int) ∧ (0 : Int) = List.getD
  (Opn.rest z) (1 : Nat) (0 : Int) ∧ (0 : Int) = List.getD (Opn.rest z) (2 : Nat) (0 : Int) ∧ (0 : Int) = List.getD (Opn.rest z) (3 : Nat) (0 : Int) ∧ (0 : Int) = List.getD (Opn.rest
  z) (4 : Nat) (0 : Int) ∧ (0 : Int) = List.getD (Opn.rest z) (5 : Nat) (0 : Int) ∧ (0 : Int) = List.getD (Opn.rest z) (6 : Nat) (0 : Int) ∧ (0 : Int) = List.getD (Opn.rest z) (7 :
  Nat) (0 : Int) ∧ (0 : Int) = List.getD (Opn.rest z) (8 : Nat) (0 : Int) ∧ (0 : Int) = List.getD (Opn.rest z) (9 : Nat) (0 : Int) ∧ (0 : Int) = List.getD (Opn.rest z) (10 : Nat) (0
  : Int) ∧ (0 : Int) = List.getD (Opn.rest z) (11 : Nat) (0 : Int) ∧ (0 : Int) = List.getD (Opn.rest z) (12 : Nat) (0 : Int) ∧ (0 : Int) = List.getD (Opn.rest z) (13 : Nat) (0 : Int)
  ∧ (0 : Int) = List.getD (Opn.rest z) (14 : Nat) (0 : Int) ∧ (0 : Int) = List.getD (Opn.rest z) (15 : Nat) (0 : Int) ∧ (0 : Int) = List.getD (Opn.rest z) (16 : Nat) (0 : Int) ∧ (0 :
  Int) = List.getD (Opn.rest z) (17 : Nat) (0 : Int) ∧ (0 : Int) = List.getD (Opn.rest z) (18 : Nat) (0 : Int) ∧ (0 : Int) = List.getD (Opn.rest z) (19 : Nat) (0 : Int) ∧ (0 : Int) =
  List.getD (Opn.rest z) (20 : Nat) (0 : Int) ∧ (0 : Int) = List.getD (Opn.rest z) (21 : Nat) (0 : Int) ∧ (0 : Int) = List.getD (Opn.rest z) (22 : Nat) (0 : Int) ∧ (0 : Int) =
  List.getD (Opn.rest z) (23 : Nat) (0 : Int) ∧ (0 : Int) = List.getD (Opn.rest z) (24 : Nat) (0 : Int) ∧ (0 : Int) = List.getD (Opn.rest z) (25 : Nat) (0 : Int) ∧ (0 : Int) =
  List.getD (Opn.rest z) (26 : Nat) (0 : Int) ∧ (0 : Int) = List.getD (Opn.rest z) (27 : Nat) (0 : Int) ∧ (0 : Int) = List.getD (Opn.rest z) (28 : Nat) (0 : Int) ∧ (0 : Int) =
  List.getD (Opn.rest z) (29 : Nat) (0 : Int) ∧ (0 : Int) = List.getD (Opn.rest z) (30 : Nat) (0 : Int) ∧ (0 : Int) = List.getD (Opn.rest z) (31 : Nat) (0 : Int) ∧ True) ∧ readyF c
  (St.mk (Opn.pc o) (Opn.fuel o) (Opn.status o) (Opn.clause o) (Opn.top o)) (Opn.depth o) = e ∧ True) ∧ ((readyF c (St.mk (Opn.pc o) (Opn.fuel o) (Opn.status o) (Opn.clause o)
  (Opn.top o)) (Opn.depth o) != (0 : Int)) = false → (decide (Opn.fuel o > (0 : Int)) = true → (decide (Opn.depth o > (0 : Int)) = true → (0 : Int) ≤ Opn.pc o ∧ Opn.pc o + (1 : Int)
  ≤ (↑(List.length c) : Int) ∧ ∀ (x : Ins), c[Int.toNat (Opn.pc o)]? = some x → True ∧ (decide ((↑(List.length (Opn.top o)) : Int) < needsF (Ins.op x)) = true → ((0 : Int) = Opn.pc z
  ∧ (0 : Int) = Opn.fuel z ∧ (0 : Int) = Opn.status z ∧ (0 : Int) = Opn.clause z ∧ Opn.top z = [] ∧ (0 : Int) = Opn.depth z ∧ (0 : Int) = List.getD (Opn.rest z) (0 : Nat) (0 : Int) ∧
  (0 : Int) = List.getD (Opn.rest z) (1 : Nat) (0 : Int) ∧ (0 : Int) = List.getD (Opn.rest z) (2 : Nat) (0 : Int) ∧ (0 : Int) = List.getD (Opn.rest z) (3 : Nat) (0 : Int) ∧ (0 : Int)
  = List.getD (Opn.rest z) (4 : Nat) (0 : Int) ∧ (0 : Int) = List.getD (Opn.rest z) (5 : Nat) (0 : Int) ∧ (0 : Int) = List.getD (Opn.rest z) (6 : Nat) (0 : Int) ∧ (0 : Int) =
  List.getD (Opn.rest z) (7 : Nat) (0 : Int) ∧ (0 : Int) = List.getD (Opn.rest z) (8 : Nat) (0 : Int) ∧ (0 : Int) = List.getD (Opn.rest z) (9 : Nat) (0 : Int) ∧ (0 : Int) = List.getD
  (Opn.rest z) (10 : Nat) (0 : Int) ∧ (0 : Int) = List.getD (Opn.rest z) (11 : Nat) (0 : Int) ∧ (0 : Int) = List.getD (Opn.rest z) (12 : Nat) (0 : Int) ∧ (0 : Int) = List.getD
  (Opn.rest z) (13 : Nat) (0 : Int) ∧ (0 : Int) = List.getD (Opn.rest z) (14 : Nat) (0 : Int) ∧ (0 : Int) = List.getD (Opn.rest z) (15 : Nat) (0 : Int) ∧ (0 : Int) = List.getD
  (Opn.rest z) (16 : Nat) (0 : Int) ∧ (0 : Int) = List.getD (Opn.rest z) (17 : Nat) (0 : Int) ∧ (0 : Int) = List.getD (Opn.rest z) (18 : Nat) (0 : Int) ∧ (0 : Int) = List.getD
  (Opn.rest z) (19 : Nat) (0 : Int) ∧ (0 : Int) = List.getD (Opn.rest z) (20 : Nat) (0 : Int) ∧ (0 : Int) = List.getD (Opn.rest z) (21 : Nat) (0 : Int) ∧ (0 : Int) = List.getD
  (Opn.rest z) (22 : Nat) (0 : Int) ∧ (0 : Int) = List.getD (Opn.rest z) (23 : Nat) (0 : Int) ∧ (0 : Int) = List.getD (Opn.rest z) (24 : Nat) (0 : Int) ∧ (0 : Int) = List.getD
  (Opn.rest z) (25 : Nat) (0 : Int) ∧ (0 : Int) = List.getD (Opn.rest z) (26 : Nat) (0 : Int) ∧ (0 : Int) = List.getD (Opn.rest z) (27 : Nat) (0 : Int) ∧ (0 : Int) = List.getD
  (Opn.rest z) (28 : Nat) (0 : Int) ∧ (0 : Int) = List.getD (Opn.rest z) (29 : Nat) (0 : Int) ∧ (0 : Int) = List.getD (Opn.rest z) (30 : Nat) (0 : Int) ∧ (0 : Int) = List.getD
  (Opn.rest z) (31 : Nat) (0 : Int) ∧ True) ∧ (390 : Int) = e ∧ True) ∧ (decide ((↑(List.length (Opn.top o)) : Int) < needsF (Ins.op x)) = false → CanAdv c (St.mk (Opn.pc o)
  (Opn.fuel o) (Opn.status o) (Opn.clause o) (Opn.top o)) (Opn.depth o) ∧ (St.pc (advF c v (St.mk (Opn.pc o) (Opn.fuel o) (Opn.status o) (Opn.clause o) (Opn.top o)) (Opn.depth o)) =
  Opn.pc z ∧ St.fuel (advF c v (St.mk (Opn.pc o) (Opn.fuel o) (Opn.status o) (Opn.clause o) (Opn.top o)) (Opn.depth o)) = Opn.fuel z ∧ St.status (advF c v (St.mk (Opn.pc o) (Opn.fuel
  o) (Opn.status o) (Opn.clause o) (Opn.top o)) (Opn.depth o)) = Opn.status z ∧ St.clause (advF c v (St.mk (Opn.pc o) (Opn.fuel o) (Opn.status o) (Opn.clause o) (Opn.top o))
  (Opn.depth o)) = Opn.clause z ∧ (St.stack (advF c v (St.mk (Opn.pc o) (Opn.fuel o) (Opn.status o) (Opn.clause o) (Opn.top o)) (Opn.depth o)) = Opn.top z ∧ (false = true → false =
  true)) ∧ Opn.depth o = Opn.depth z ∧ List.getD (Opn.rest o) (0 : Nat) (0 : Int) = List.getD (Opn.rest z) (0 : Nat) (0 : Int) ∧ List.getD (Opn.rest o) (1 : Nat) (0 : Int) =
  List.getD (Opn.rest z) (1 : Nat) (0 : Int) ∧ List.getD (Opn.rest o) (2 : Nat) (0 : Int) = List.getD (Opn.rest z) (2 : Nat) (0 : Int) ∧ List.getD (Opn.rest o) (3 : Nat) (0 : Int) =
  List.getD (Opn.rest z) (3 : Nat) (0 : Int) ∧ List.getD (Opn.rest o) (4 : Nat) (0 : Int) = List.getD (Opn.rest z) (4 : Nat) (0 : Int) ∧ List.getD (Opn.rest o) (5 : Nat) (0 : Int) =
  List.getD (Opn.rest z) (5 : Nat) (0 : Int) ∧ List.getD (Opn.rest o) (6 : Nat) (0 : Int) = List.getD (Opn.rest z) (6 : Nat) (0 : Int) ∧ List.getD (Opn.rest o) (7 : Nat) (0 : Int) =
  List.getD (Opn.rest z) (7 : Nat) (0 : Int) ∧ List.getD (Opn.rest o) (8 : Nat) (0 : Int) = List.getD (Opn.rest z) (8 : Nat) (0 : Int) ∧ List.getD (Opn.rest o) (9 : Nat) (0 : Int) =
  List.getD (Opn.rest z) (9 : Nat) (0 : Int) ∧ List.getD (Opn.rest o) (10 : Nat) (0 : Int) = List.getD (Opn.rest z) (10 : Nat) (0 : Int) ∧ List.getD (Opn.rest o) (11 : Nat) (0 : Int)
  = List.getD (Opn.rest z) (11 : Nat) (0 : Int) ∧ List.getD (Opn.rest o) (12 : Nat) (0 : Int) = List.getD (Opn.rest z) (12 : Nat) (0 : Int) ∧ List.getD (Opn.rest o) (13 : Nat) (0 :
  Int) = List.getD (Opn.rest z) (13 : Nat) (0 : Int) ∧ List.getD (Opn.rest o) (14 : Nat) (0 : Int) = List.getD (Opn.rest z) (14 : Nat) (0 : Int) ∧ List.getD (Opn.rest o) (15 : Nat)
  (0 : Int) = List.getD (Opn.rest z) (15 : Nat) (0 : Int) ∧ List.getD (Opn.rest o) (16 : Nat) (0 : Int) = List.getD (Opn.rest z) (16 : Nat) (0 : Int) ∧ List.getD (Opn.rest o) (17 :
  Nat) (0 : Int) = List.getD (Opn.rest z) (17 : Nat) (0 : Int) ∧ List.getD (Opn.rest o) (18 : Nat) (0 : Int) = List.getD (Opn.rest z) (18 : Nat) (0 : Int) ∧ List.getD (Opn.rest o)
  (19 : Nat) (0 : Int) = List.getD (Opn.rest z) (19 : Nat) (0 : Int) ∧ List.getD (Opn.rest o) (20 : Nat) (0 : Int) = List.getD (Opn.rest z) (20 : Nat) (0 : Int) ∧ List.getD (Opn.rest
  o) (21 : Nat) (0 : Int) = List.getD (Opn.rest z) (21 : Nat) (0 : Int) ∧ List.getD (Opn.rest o) (22 : Nat) (0 : Int) = List.getD (Opn.rest z) (22 : Nat) (0 : Int) ∧ List.getD
  (Opn.rest o) (23 : Nat) (0 : Int) = List.getD (Opn.rest z) (23 : Nat) (0 : Int) ∧ List.getD (Opn.rest o) (24 : Nat) (0 : Int) = List.getD (Opn.rest z) (24 : Nat) (0 : Int) ∧
  List.getD (Opn.rest o) (25 : Nat) (0 : Int) = List.getD (Opn.rest z) (25 : Nat) (0 : Int) ∧ List.getD (Opn.rest o) (26 : Nat) (0 : Int) = List.getD (Opn.rest z) (26 : Nat) (0 :
  Int) ∧ List.getD (Opn.rest o) (27 : Nat) (0 : Int) = List.getD (Opn.rest z) (27 : Nat) (0 : Int) ∧ List.getD (Opn.rest o) (28 : Nat) (0 : Int) = List.getD (Opn.rest z) (28 : Nat)
  (0 : Int) ∧ List.getD (Opn.rest o) (29 : Nat) (0 : Int) = List.getD (Opn.rest z) (29 : Nat) (0 : Int) ∧ List.getD (Opn.rest o) (30 : Nat) (0 : Int) = List.getD (Opn.rest z) (30 :
  Nat) (0 : Int) ∧ List.getD (Opn.rest o) (31 : Nat) (0 : Int) = List.getD (Opn.rest z) (31 : Nat) (0 : Int) ∧ True) ∧ (0 : Int) = e ∧ True)) ∧ (decide (Opn.depth o > (0 : Int)) =
  false → CanAdv c (St.mk (Opn.pc o) (Opn.fuel o) (Opn.status o) (Opn.clause o) (Opn.top o)) (Opn.depth o) ∧ (St.pc (advF c v (St.mk (Opn.pc o) (Opn.fuel o) (Opn.status o)
  (Opn.clause o) (Opn.top o)) (Opn.depth o)) = Opn.pc z ∧ St.fuel (advF c v (St.mk (Opn.pc o) (Opn.fuel o) (Opn.status o) (Opn.clause o) (Opn.top o)) (Opn.depth o)) = Opn.fuel z ∧
  St.status (advF c v (St.mk (Opn.pc o) (Opn.fuel o) (Opn.status o) (Opn.clause o) (Opn.top o)) (Opn.depth o)) = Opn.status z ∧ St.clause (advF c v (St.mk (Opn.pc o) (Opn.fuel o)
  (Opn.status o) (Opn.clause o) (Opn.top o)) (Opn.depth o)) = Opn.clause z ∧ (St.stack (advF c v (St.mk (Opn.pc o) (Opn.fuel o) (Opn.status o) (Opn.clause o) (Opn.top o)) (Opn.depth
  o)) = Opn.top z ∧ (false = true → false = true)) ∧ Opn.depth o = Opn.depth z ∧ List.getD (Opn.rest o) (0 : Nat) (0 : Int) = List.getD (Opn.rest z) (0 : Nat) (0 : Int) ∧ List.getD
  (Opn.rest o) (1 : Nat) (0 : Int) = List.getD (Opn.rest z) (1 : Nat) (0 : Int) ∧ List.getD (Opn.rest o) (2 : Nat) (0 : Int) = List.getD (Opn.rest z) (2 : Nat) (0 : Int) ∧ List.getD
  (Opn.rest o) (3 : Nat) (0 : Int) = List.getD (Opn.rest z) (3 : Nat) (0 : Int) ∧ List.getD (Opn.rest o) (4 : Nat) (0 : Int) = List.getD (Opn.rest z) (4 : Nat) (0 : Int) ∧ List.getD
  (Opn.rest o) (5 : Nat) (0 : Int) = List.getD (Opn.rest z) (5 : Nat) (0 : Int) ∧ List.getD (Opn.rest o) (6 : Nat) (0 : Int) = List.getD (Opn.rest z) (6 : Nat) (0 : Int) ∧ List.getD
  (Opn.rest o) (7 : Nat) (0 : Int) = List.getD (Opn.rest z) (7 : Nat) (0 : Int) ∧ List.getD (Opn.rest o) (8 : Nat) (0 : Int) = List.getD (Opn.rest z) (8 : Nat) (0 : Int) ∧ List.getD
  (Opn.rest o) (9 : Nat) (0 : Int) = List.getD (Opn.rest z) (9 : Nat) (0 : Int) ∧ List.getD (Opn.rest o) (10 : Nat) (0 : Int) = List.getD (Opn.rest z) (10 : Nat) (0 : Int) ∧
  List.getD (Opn.rest o) (11 : Nat) (0 : Int) = List.getD (Opn.rest z) (11 : Nat) (0 : Int) ∧ List.getD (Opn.rest o) (12 : Nat) (0 : Int) = List.getD (Opn.rest z) (12 : Nat) (0 :
  Int) ∧ List.getD (Opn.rest o) (13 : Nat) (0 : Int) = List.getD (Opn.rest z) (13 : Nat) (0 : Int) ∧ List.getD (Opn.rest o) (14 : Nat) (0 : Int) = List.getD (Opn.rest z) (14 : Nat)
  (0 : Int) ∧ List.getD (Opn.rest o) (15 : Nat) (0 : Int) = List.getD (Opn.rest z) (15 : Nat) (0 : Int) ∧ List.getD (Opn.rest o) (16 : Nat) (0 : Int) = List.getD (Opn.rest z) (16 :
  Nat) (0 : Int) ∧ List.getD (Opn.rest o) (17 : Nat) (0 : Int) = List.getD (Opn.rest z) (17 : Nat) (0 : Int) ∧ List.getD (Opn.rest o) (18 : Nat) (0 : Int) = List.getD (Opn.rest z)
  (18 : Nat) (0 : Int) ∧ List.getD (Opn.rest o) (19 : Nat) (0 : Int) = List.getD (Opn.rest z) (19 : Nat) (0 : Int) ∧ List.getD (Opn.rest o) (20 : Nat) (0 : Int) = List.getD (Opn.rest
  z) (20 : Nat) (0 : Int) ∧ List.getD (Opn.rest o) (21 : Nat) (0 : Int) = List.getD (Opn.rest z) (21 : Nat) (0 : Int) ∧ List.getD (Opn.rest o) (22 : Nat) (0 : Int) = List.getD
  (Opn.rest z) (22 : Nat) (0 : Int) ∧ List.getD (Opn.rest o) (23 : Nat) (0 : Int) = List.getD (Opn.rest z) (23 : Nat) (0 : Int) ∧ List.getD (Opn.rest o) (24 : Nat) (0 : Int) =
  List.getD (Opn.rest z) (24 : Nat) (0 : Int) ∧ List.getD (Opn.rest o) (25 : Nat) (0 : Int) = List.getD (Opn.rest z) (25 : Nat) (0 : Int) ∧ List.getD (Opn.rest o) (26 : Nat) (0 :
  Int) = List.getD (Opn.rest z) (26 : Nat) (0 : Int) ∧ List.getD (Opn.rest o) (27 : Nat) (0 : Int) = List.getD (Opn.rest z) (27 : Nat) (0 : Int) ∧ List.getD (Opn.rest o) (28 : Nat)
  (0 : Int) = List.getD (Opn.rest z) (28 : Nat) (0 : Int) ∧ List.getD (Opn.rest o) (29 : Nat) (0 : Int) = List.getD (Opn.rest z) (29 : Nat) (0 : Int) ∧ List.getD (Opn.rest o) (30 :
  Nat) (0 : Int) = List.getD (Opn.rest z) (30 : Nat) (0 : Int) ∧ List.getD (Opn.rest o) (31 : Nat) (0 : Int) = List.getD (Opn.rest z) (31 : Nat) (0 : Int) ∧ True) ∧ (0 : Int) = e ∧
  True)) ∧ (decide (Opn.fuel o > (0 : Int)) = false → CanAdv c (St.mk (Opn.pc o) (Opn.fuel o) (Opn.status o) (Opn.clause o) (Opn.top o)) (Opn.depth o) ∧ (St.pc (advF c v (St.mk
  (Opn.pc o) (Opn.fuel o) (Opn.status o) (Opn.clause o) (Opn.top o)) (Opn.depth o)) = Opn.pc z ∧ St.fuel (advF c v (St.mk (Opn.pc o) (Opn.fuel o) (Opn.status o) (Opn.clause o)
  (Opn.top o)) (Opn.depth o)) = Opn.fuel z ∧ St.status (advF c v (St.mk (Opn.pc o) (Opn.fuel o) (Opn.status o) (Opn.clause o) (Opn.top o)) (Opn.depth o)) = Opn.status z ∧ St.clause
  (advF c v (St.mk (Opn.pc o) (Opn.fuel o) (Opn.status o) (Opn.clause o) (Opn.top o)) (Opn.depth o)) = Opn.clause z ∧ (St.stack (advF c v (St.mk (Opn.pc o) (Opn.fuel o) (Opn.status
  o) (Opn.clause o) (Opn.top o)) (Opn.depth o)) = Opn.top z ∧ (false = true → false = true)) ∧ Opn.depth o = Opn.depth z ∧ List.getD (Opn.rest o) (0 : Nat) (0 : Int) = List.getD
  (Opn.rest z) (0 : Nat) (0 : Int) ∧ List.getD (Opn.rest o) (1 : Nat) (0 : Int) = List.getD (Opn.rest z) (1 : Nat) (0 : Int) ∧ List.getD (Opn.rest o) (2 : Nat) (0 : Int) = List.getD
  (Opn.rest z) (2 : Nat) (0 : Int) ∧ List.getD (Opn.rest o) (3 : Nat) (0 : Int) = List.getD (Opn.rest z) (3 : Nat) (0 : Int) ∧ List.getD (Opn.rest o) (4 : Nat) (0 : Int) = List.getD
  (Opn.rest z) (4 : Nat) (0 : Int) ∧ List.getD (Opn.rest o) (5 : Nat) (0 : Int) = List.getD (Opn.rest z) (5 : Nat) (0 : Int) ∧ List.getD (Opn.rest o) (6 : Nat) (0 : Int) = List.getD
  (Opn.rest z) (6 : Nat) (0 : Int) ∧ List.getD (Opn.rest o) (7 : Nat) (0 : Int) = List.getD (Opn.rest z) (7 : Nat) (0 : Int) ∧ List.getD (Opn.rest o) (8 : Nat) (0 : Int) = List.getD
  (Opn.rest z) (8 : Nat) (0 : Int) ∧ List.getD (Opn.rest o) (9 : Nat) (0 : Int) = List.getD (Opn.rest z) (9 : Nat) (0 : Int) ∧ List.getD (Opn.rest o) (10 : Nat) (0 : Int) = List.getD
  (Opn.rest z) (10 : Nat) (0 : Int) ∧ List.getD (Opn.rest o) (11 : Nat) (0 : Int) = List.getD (Opn.rest z) (11 : Nat) (0 : Int) ∧ List.getD (Opn.rest o) (12 : Nat) (0 : Int) =
  List.getD (Opn.rest z) (12 : Nat) (0 : Int) ∧ List.getD (Opn.rest o) (13 : Nat) (0 : Int) = List.getD (Opn.rest z) (13 : Nat) (0 : Int) ∧ List.getD (Opn.rest o) (14 : Nat) (0 :
  Int) = List.getD (Opn.rest z) (14 : Nat) (0 : Int) ∧ List.getD (Opn.rest o) (15 : Nat) (0 : Int) = List.getD (Opn.rest z) (15 : Nat) (0 : Int) ∧ List.getD (Opn.rest o) (16 : Nat)
  (0 : Int) = List.getD (Opn.rest z) (16 : Nat) (0 : Int) ∧ List.getD (Opn.rest o) (17 : Nat) (0 : Int) = List.getD (Opn.rest z) (17 : Nat) (0 : Int) ∧ List.getD (Opn.rest o) (18 :
  Nat) (0 : Int) = List.getD (Opn.rest z) (18 : Nat) (0 : Int) ∧ List.getD (Opn.rest o) (19 : Nat) (0 : Int) = List.getD (Opn.rest z) (19 : Nat) (0 : Int) ∧ List.getD (Opn.rest o)
  (20 : Nat) (0 : Int) = List.getD (Opn.rest z) (20 : Nat) (0 : Int) ∧ List.getD (Opn.rest o) (21 : Nat) (0 : Int) = List.getD (Opn.rest z) (21 : Nat) (0 : Int) ∧ List.getD (Opn.rest
  o) (22 : Nat) (0 : Int) = List.getD (Opn.rest z) (22 : Nat) (0 : Int) ∧ List.getD (Opn.rest o) (23 : Nat) (0 : Int) = List.getD (Opn.rest z) (23 : Nat) (0 : Int) ∧ List.getD
  (Opn.rest o) (24 : Nat) (0 : Int) = List.getD (Opn.rest z) (24 : Nat) (0 : Int) ∧ List.getD (Opn.rest o) (25 : Nat) (0 : Int) = List.getD (Opn.rest z) (25 : Nat) (0 : Int) ∧
  List.getD (Opn.rest o) (26 : Nat) (0 : Int) = List.getD (Opn.rest z) (26 : Nat) (0 : Int) ∧ List.getD (Opn.rest o) (27 : Nat) (0 : Int) = List.getD (Opn.rest z) (27 : Nat) (0 :
  Int) ∧ List.getD (Opn.rest o) (28 : Nat) (0 : Int) = List.getD (Opn.rest z) (28 : Nat) (0 : Int) ∧ List.getD (Opn.rest o) (29 : Nat) (0 : Int) = List.getD (Opn.rest z) (29 : Nat)
  (0 : Int) ∧ List.getD (Opn.rest o) (30 : Nat) (0 : Int) = List.getD (Opn.rest z) (30 : Nat) (0 : Int) ∧ List.getD (Opn.rest o) (31 : Nat) (0 : Int) = List.getD (Opn.rest z) (31 :
  Nat) (0 : Int) ∧ True) ∧ (0 : Int) = e ∧ True))
  ) := by kernel_rfl
--@end
theorem ready_can {c : List Ins} {s : St} {below : Int} (h : readyF c s below = 0) : CanAdv c s below := by
  unfold readyF at h
  split at h
  · cases h
  · rename_i h1
    split at h
    · rename_i h2; exact absurd h h2
    · rename_i h2
      split at h
      · cases h
      · obtain ⟨D, hD⟩ := verF_safe (by simpa using h2)
        exact ⟨hD.short, by omega, by omega, fun x hx => hD.formed _ _ hx, by omega, by omega, by omega, by omega, by omega⟩
theorem stepopen_pure (c : List Ins) (v : Env) (o : Opn) : PureC E 11 [.psl .ins c false, envV v, opnV o] (.tup [opnV (stepOpenF c v o).1, .int false .i64 (stepOpenF c v o).2]) := by
  refine pure_of_call E_ok (callOk_of E_ok F6r_ok 400) ?_
  rw [cond_stepopen]
  simp only [bne_iff_ne, bne_eq_false_iff_eq, decide_eq_true_eq, decide_eq_false_iff_not]
  refine ⟨trivial, fun h => ?_, fun h => ?_⟩
  · have h : readyF c o.st o.depth ≠ 0 := h
    unfold stepOpenF
    rw [if_pos h]
    exact ⟨⟨rfl, rfl, rfl, rfl, rfl, rfl, rfl, rfl, rfl, rfl, rfl, rfl, rfl, rfl, rfl, rfl, rfl, rfl, rfl, rfl, rfl, rfl, rfl, rfl, rfl, rfl, rfl, rfl, rfl, rfl, rfl, rfl, rfl, rfl, rfl, rfl, rfl, rfl, trivial⟩, rfl, trivial⟩
  · have h : readyF c o.st o.depth = 0 := h
    have hc := ready_can h
    have p0 := hc.pc0
    have p1 := hc.pc1
    have p0 : 0 ≤ o.pc := p0
    have p1 : o.pc < c.length := p1
    have fin : ¬ (0 < o.fuel ∧ 0 < o.depth ∧ (o.top.length : Int) < needsF (match c[o.pc.toNat]? with | some x => x.op | none => 0)) → stepOpenF c v o = (⟨(advF c v o.st o.depth).pc, (advF c v o.st o.depth).fuel, (advF c v o.st o.depth).status, (advF c v o.st o.depth).clause, (advF c v o.st o.depth).stack, o.depth, o.rest⟩, 0) := fun hn => by
      unfold stepOpenF
      rw [if_neg (fun hx => hx h), if_neg hn]
    refine ⟨fun h1 => ⟨fun h2 => ⟨p0, by omega, fun x hx => ⟨trivial, fun h3 => ?_, fun h3 => ⟨hc, ?_⟩⟩⟩, fun h2 => ⟨hc, ?_⟩⟩, fun h1 => ⟨hc, ?_⟩⟩
    · have e : stepOpenF c v o = (zeroOpn, 390) := by
        unfold stepOpenF
        rw [if_neg (fun hx => hx h), hx, if_pos ⟨by omega, by omega, h3⟩]
      rw [e]
      exact ⟨⟨rfl, rfl, rfl, rfl, rfl, rfl, rfl, rfl, rfl, rfl, rfl, rfl, rfl, rfl, rfl, rfl, rfl, rfl, rfl, rfl, rfl, rfl, rfl, rfl, rfl, rfl, rfl, rfl, rfl, rfl, rfl, rfl, rfl, rfl, rfl, rfl, rfl, rfl, trivial⟩, rfl, trivial⟩
    · rw [fin (by rw [hx]; exact fun hn => h3 hn.2.2)]
      exact ⟨⟨rfl, rfl, rfl, rfl, ⟨rfl, id⟩, rfl, rfl, rfl, rfl, rfl, rfl, rfl, rfl, rfl, rfl, rfl, rfl, rfl, rfl, rfl, rfl, rfl, rfl, rfl, rfl, rfl, rfl, rfl, rfl, rfl, rfl, rfl, rfl, rfl, rfl, rfl, rfl, rfl, trivial⟩, rfl, trivial⟩
    · rw [fin (by omega)]
      exact ⟨⟨rfl, rfl, rfl, rfl, ⟨rfl, id⟩, rfl, rfl, rfl, rfl, rfl, rfl, rfl, rfl, rfl, rfl, rfl, rfl, rfl, rfl, rfl, rfl, rfl, rfl, rfl, rfl, rfl, rfl, rfl, rfl, rfl, rfl, rfl, rfl, rfl, rfl, rfl, rfl, rfl, trivial⟩, rfl, trivial⟩
    · rw [fin (by omega)]
      exact ⟨⟨rfl, rfl, rfl, rfl, ⟨rfl, id⟩, rfl, rfl, rfl, rfl, rfl, rfl, rfl, rfl, rfl, rfl, rfl, rfl, rfl, rfl, rfl, rfl, rfl, rfl, rfl, rfl, rfl, rfl, rfl, rfl, rfl, rfl, rfl, rfl, rfl, rfl, rfl, rfl, rfl, trivial⟩, rfl, trivial⟩
end Go.Proofs.YtcaomfbcchemnabDoor

/- Chapter 21, plain law: a step of an opening is a step of the whole state. -/
namespace Go.Proofs.YtcaomfbcchemnabDoor
open Go
set_option linter.unusedVariables false
set_option linter.unusedSimpArgs false
/-- a state with more numbers below -/
def St.on (A : List Int) (s : St) : St := { s with stack := A ++ s.stack }
theorem topF_on (A T : List Int) (i : Nat) (h : i < T.length) : topF (A ++ T) i = topF T i := by
  unfold topF
  rw [List.getD_eq_getElem?_getD, List.getD_eq_getElem?_getD, List.length_append, List.getElem?_append_right (by omega)]
  congr 2
  omega
theorem pops_on (A : List Int) (s : St) (n : Nat) (l : List Int) (h : n ≤ s.stack.length) : (s.on A).pops n l = (s.pops n l).on A := by
  unfold St.pops St.on
  simp only [List.length_append]
  congr 1
  rw [show A.length + s.stack.length - n = A.length + (s.stack.length - n) by omega, List.take_length_add_append, List.append_assoc]
theorem needsF_le (op : Int) : 0 ≤ needsF op ∧ needsF op ≤ 2 := by unfold needsF; split <;> (try split) <;> omega
theorem exec_on (x : Ins) (v : Env) (A : List Int) (s : St) (b : Int) (hn : needsF x.op ≤ s.stack.length) (hop : 1 ≤ x.op ∧ x.op ≤ 16) :
    execF x v (s.on A) b = (((execF x v s (b + A.length)).1).on A, (execF x v s (b + A.length)).2) := by
  have hlen : (s.on A).stack.length = A.length + s.stack.length := by simp [St.on]
  have hst : (s.on A).stack = A ++ s.stack := rfl
  have hnn := needsF_le x.op
  unfold execF
  rw [if_neg (show ¬ (((s.on A).stack.length : Int) < needsF x.op) by rw [hlen]; omega), if_neg (show ¬ ((s.stack.length : Int) < needsF x.op) by omega)]
  have e0 : 0 < s.stack.length → topF (s.on A).stack 0 = topF s.stack 0 := fun h => topF_on _ _ _ h
  have e1 : 1 < s.stack.length → topF (s.on A).stack 1 = topF s.stack 1 := fun h => topF_on _ _ _ h
  have eb : (64 ≤ b + ((s.on A).stack.length : Int)) ↔ 64 ≤ b + A.length + s.stack.length := by rw [hlen]; omega
  by_cases h1 : x.op = 1
  · rw [if_pos h1, if_pos h1]
    by_cases hb : 64 ≤ b + A.length + (s.stack.length : Int)
    · rw [if_pos (eb.2 hb), if_pos hb]
    · rw [if_neg (fun h => hb (eb.1 h)), if_neg hb, pops_on A s 0 _ (Nat.zero_le _)]
  rw [if_neg h1, if_neg h1]
  by_cases h2 : x.op = 2
  · rw [if_pos h2, if_pos h2]
    by_cases hb : 64 ≤ b + A.length + (s.stack.length : Int)
    · rw [if_pos (eb.2 hb), if_pos hb]
    · rw [if_neg (fun h => hb (eb.1 h)), if_neg hb]
      split
      · rfl
      · split
        · rfl
        · rw [pops_on A s 0 _ (Nat.zero_le _)]
  rw [if_neg h2, if_neg h2]
  by_cases h12 : x.op = 12
  · have : needsF x.op = 1 := by rw [h12]; rfl
    rw [if_pos h12, if_pos h12, e0 (by omega), pops_on A s 1 _ (by omega)]
  rw [if_neg h12, if_neg h12]
  by_cases h13 : x.op = 13
  · have : needsF x.op = 1 := by rw [h13]; rfl
    rw [if_pos h13, if_pos h13, e0 (by omega), pops_on A s 1 _ (by omega)]
    rfl
  rw [if_neg h13, if_neg h13]
  by_cases h14 : x.op = 14
  · rw [if_pos h14, if_pos h14]; rfl
  rw [if_neg h14, if_neg h14]
  by_cases h15 : x.op = 15
  · rw [if_pos h15, if_pos h15]; rfl
  rw [if_neg h15, if_neg h15]
  by_cases h16 : x.op = 16
  · rw [if_pos h16, if_pos h16]
  rw [if_neg h16, if_neg h16]
  have : needsF x.op = 2 := by unfold needsF; rw [if_neg (by omega), if_pos (by omega)]
  rw [e0 (by omega), e1 (by omega)]
  split
  · rfl
  · rw [pops_on A s 2 _ (by omega)]
theorem adv_on {c : List Ins} {v : Env} {A : List Int} {s : St} {b : Int} {x : Ins} (hx : c[s.pc.toNat]? = some x) (hop : 1 ≤ x.op ∧ x.op ≤ 16) (hn : A = [] ∨ s.fuel = 0 ∨ needsF x.op ≤ s.stack.length) :
    advF c v (s.on A) b = (advF c v s (b + A.length)).on A := by
  rcases hn with rfl | hn
  · simp [St.on]
  unfold advF
  show (if s.fuel = 0 then _ else _) = _
  by_cases hf : s.fuel = 0
  · rw [if_pos hf, if_pos hf]; rfl
  rw [if_neg hf, if_neg hf]
  show (match c[s.pc.toNat]? with | none => _ | some x => _) = _
  rw [hx]
  have hn : needsF x.op ≤ s.stack.length := by rcases hn with h | h; · exact absurd h hf
                                               · exact h
  have := exec_on x v A { s with fuel := s.fuel - 1 } b hn hop
  show (if (execF x v (St.on A { s with fuel := s.fuel - 1 }) b).2 = 0 then (execF x v (St.on A { s with fuel := s.fuel - 1 }) b).1 else { s.on A with fuel := s.fuel - 1, status := 10 + (execF x v (St.on A { s with fuel := s.fuel - 1 }) b).2 }) = _
  rw [this]
  simp only []
  split
  · rfl
  · rfl
/-- how many numbers lie below -/
def kOf (s : St) (n : Int) : Nat := s.stack.length - (min (max n 0) s.stack.length).toNat
theorem open_on (s : St) (n : Int) : s = ((openF s n).st).on (s.stack.take (kOf s n)) := by
  unfold St.on Opn.st openF kOf
  simp only [List.take_append_drop]
theorem open_depth (s : St) (n : Int) : (openF s n).depth = (kOf s n : Int) ∧ (openF s n).top.length = (min (max n 0) s.stack.length).toNat ∧ (s.stack.take (kOf s n)).length = kOf s n ∧ kOf s n + (openF s n).top.length = s.stack.length := by
  refine ⟨rfl, ?_, ?_, ?_⟩
  · show (s.stack.drop _).length = _
    rw [List.length_drop]; omega
  · rw [List.length_take]; unfold kOf; omega
  · show kOf s n + (s.stack.drop _).length = _
    rw [List.length_drop]; unfold kOf; omega
theorem ready_open (c : List Ins) (s : St) (n : Int) (hs : s.stack.length ≤ 64) : readyF c (openF s n).st (openF s n).depth = readyF c s 0 := by
  obtain ⟨h1, h2, h3, h4⟩ := open_depth s n
  have h5 : (openF s n).st.stack.length = (openF s n).top.length := rfl
  have e1 : (openF s n).st.pc = s.pc := rfl
  have e2 : (openF s n).st.fuel = s.fuel := rfl
  have e3 : (openF s n).st.status = s.status := rfl
  have e4 : (openF s n).st.clause = s.clause := rfl
  unfold readyF
  rw [e1, e2, e3, e4, h1, h5]
  split
  · rfl
  · split
    · rfl
    · by_cases hq : s.pc < 0 ∨ c.length ≤ s.pc ∨ s.fuel < 0 ∨ 32768 < s.fuel ∨ s.clause ≠ 0
      · rw [if_pos (by omega), if_pos (by omega)]
      · rw [if_neg (by omega), if_neg (by omega)]
/-- a step of an opening that has enough numbers -/
theorem step_open {c : List Ins} {v : Env} {s : St} {n : Int} {x : Ins} (hs : s.stack.length ≤ 64) (hr : readyF c s 0 = 0) (hx : c[s.pc.toNat]? = some x) (hop : 1 ≤ x.op ∧ x.op ≤ 16)
    (hn : ¬ (0 < s.fuel ∧ 0 < (openF s n).depth ∧ ((openF s n).top.length : Int) < needsF x.op)) (hf : 0 ≤ s.fuel) :
    advF c v s 0 = (advF c v (openF s n).st (openF s n).depth).on (s.stack.take (kOf s n)) := by
  obtain ⟨h1, h2, h3, h4⟩ := open_depth s n
  have hx' : c[(openF s n).st.pc.toNat]? = some x := hx
  have := adv_on (v := v) (A := s.stack.take (kOf s n)) (s := (openF s n).st) (b := 0) hx' hop ?_
  · rw [← open_on s n, h3, Int.zero_add] at this
    rw [this, h1]
  · by_cases hk : kOf s n = 0
    · left; rw [hk]; simp
    · right
      by_cases hf0 : s.fuel = 0
      · left; exact hf0
      · right
        show needsF x.op ≤ (openF s n).top.length
        omega
end Go.Proofs.YtcaomfbcchemnabDoor

/- Chapter 21: TvmReveals. -/
namespace Go.Proofs.YtcaomfbcchemnabDoor
open Go
set_option linter.unusedVariables false
set_option linter.unusedSimpArgs false
noncomputable def dRow2 (th : Th) : Dc E2 (domT th) := dRow E2_ok th fun _ _ h => dec_nid h
noncomputable def dEnv2 : Dc E2 Env := dRow2 .envs
noncomputable def dSt2 : Dc E2 St := dRow2 .sts
noncomputable def dOpn2 : Dc E2 Opn := dRow2 .opns
--@cond samest | 33 | F6 | 400 | (a b : List Int) | [.psl Th.ints a false, .psl Th.ints b false] | (e : Bool) | .bool false e
theorem cond_samest (a b : List Int) (e : Bool) : callF E F6 (vc E F6 400) 33 [.psl Th.ints a false, .psl Th.ints b false] hp0 0 (fun r => ret E (patch hp0 0 r) r.v (.bool false e)) = (
  (((↑(List.length a) : Int) != (↑(List.length b) : Int)) = true → false = e) ∧ (((↑(List.length a) : Int) != (↑(List.length b) : Int)) = false → ∃ (R : LX → Prop), (∃ (x : LX), R x
  ∧ true = true ∧ ((a = a ∧ (false = true → false = true)) ∧ (b = b ∧ (false = true → false = true)) ∧ (0 : Int) = (↑(LX.k x) : Int) ∧ True) ∧ True) ∧ ∀ (x : LX), R x → (decide
  ((↑(LX.k x) : Int) < (↑(List.length a) : Int)) = true → (0 : Int) ≤ (↑(LX.k x) : Int) ∧ (↑(LX.k x) : Int) + (1 : Int) ≤ (↑(List.length a) : Int) ∧ ∀ (x_1 : Int), a[Int.toNat
  (↑(LX.k x) : Int)]? = some x_1 → (0 : Int) ≤ (↑(LX.k x) : Int) ∧ (↑(LX.k x) : Int) + (1 : Int) ≤ (↑(List.length b) : Int) ∧ ∀ (x_2 : Int), b[Int.toNat (↑(LX.k x) : Int)]? = some
  x_2 → ((x_1 != x_2) = true → false = e) ∧ ((x_1 != x_2) = false → ∃ (x' : LX), R x' ∧ x'.2 + (1 : Nat) ≤ x.2 ∧ true = true ∧ ((a = a ∧ (false = true → false = true)) ∧ (b = b ∧
  (false = true → false = true)) ∧ wr IntKind.i64 ((↑(LX.k x) : Int) + (1 : Int)) = (↑(LX.k x') : Int) ∧ True) ∧ True)) ∧ (decide ((↑(LX.k x) : Int) < (↑(List.length a) : Int)) =
  false → true = e))
  ) := by kernel_rfl
--@end
theorem samest_pure (a b : List Int) (ha : a.length ≤ 1000000) : PureC E 33 [.psl Th.ints a false, .psl Th.ints b false] (.bool false (decide (a = b))) := by
  refine pure_of_call E_ok (callOk_of E_ok F6_ok 400) ?_
  rw [cond_samest]
  simp only [bif_true, bif_false, bif_nt, bif_tf, bif_ft, beq_iff_eq, bne_iff_ne, beq_eq_false_iff_ne, bne_eq_false_iff_eq, decide_eq_true_eq, decide_eq_false_iff_not, Bool.or_eq_true, Bool.or_eq_false_iff, Bool.not_eq_true', Bool.not_eq_false', Bool.and_eq_true, Bool.and_true, Bool.true_and, Bool.and_eq_false_iff, beq_self_eq_true, mm2_max, mm2_min, ne_eq, and_true, true_and, Bool.true_eq_false, Bool.false_eq_true, false_or, or_false, true_implies, imp_self, Int.ofNat_eq_natCast, not_true_eq_false, not_false_eq_true, Decidable.not_not]
  refine ⟨fun h => (decide_eq_false fun e => h (by rw [e])).symm, fun h => ⟨fun x => x.k ≤ a.length ∧ a.take x.k = b.take x.k ∧ x.r = a.length - x.k, ⟨⟨0, a.length, [], 0⟩, ⟨Nat.zero_le _, by simp, rfl⟩, rfl⟩, ?_⟩⟩
  rintro x ⟨h1, h2, h3⟩
  refine And.intro (fun hlt => ⟨by omega, by omega, fun p hp => ⟨by omega, by omega, fun q hq => ⟨fun hne => ?_, fun he => ?_⟩⟩⟩) (fun hge => ?_)
  · refine (decide_eq_false fun e => hne ?_).symm
    have hp : a[x.k]? = some p := hp
    have hq : b[x.k]? = some q := hq
    rw [e, hq] at hp
    exact (Option.some.inj hp).symm
  · refine ⟨⟨x.k + 1, a.length - (x.k + 1), [], 0⟩, ⟨by show x.k + 1 ≤ _; omega, ?_, rfl⟩, by show a.length - (x.k + 1) + 1 ≤ x.r; omega, ?_⟩
    · show a.take (x.k + 1) = b.take (x.k + 1)
      rw [take_get (show a[x.k]? = some p from hp), take_get (show b[x.k]? = some q from hq), h2, he]
    · show wr .i64 ((x.k : Int) + 1) = ((x.k + 1 : Nat) : Int)
      rw [wr64 (by omega) (by omega)]; omega
  · have e : x.k = a.length := by omega
    rw [e, List.take_length, List.take_of_length_le (by omega)] at h2
    exact (decide_eq_true h2).symm
--@cond few | 6 | F0 | 400 | (c : List Ins) (l : List Int) | [.psl Th.ins c false, .psl Th.ints l false] | (e : Bool) | .bool false e
theorem cond_few (c : List Ins) (l : List Int) (e : Bool) : callF E F0 (vc E F0 400) 6 [.psl Th.ins c false, .psl Th.ints l false] hp0 0 (fun r => ret E (patch hp0 0 r) r.v (.bool false e)) = (
  (decide ((↑(List.length c) : Int) ≤ (60 : Int)) = true → (decide ((↑(List.length l) : Int) ≤ (66 : Int)) = true → true = e) ∧ (decide ((↑(List.length l) : Int) ≤ (66 : Int)) =
  false → false = e)) ∧ (decide ((↑(List.length c) : Int) ≤ (60 : Int)) = false → false = e)
  ) := by kernel_rfl
--@end
theorem few_pure (c : List Ins) (l : List Int) : PureC E 6 [.psl Th.ins c false, .psl Th.ints l false] (.bool false (decide (c.length ≤ 60 ∧ l.length ≤ 66))) := by
  refine pure_of_call E_ok (callOk_of E_ok F0_ok 400) ?_
  rw [cond_few]
  simp only [bif_true, bif_false, bif_nt, bif_tf, bif_ft, beq_iff_eq, bne_iff_ne, beq_eq_false_iff_ne, bne_eq_false_iff_eq, decide_eq_true_eq, decide_eq_false_iff_not, Bool.or_eq_true, Bool.or_eq_false_iff, Bool.not_eq_true', Bool.not_eq_false', Bool.and_eq_true, Bool.and_true, Bool.true_and, Bool.and_eq_false_iff, beq_self_eq_true, mm2_max, mm2_min, ne_eq, and_true, true_and, Bool.true_eq_false, Bool.false_eq_true, false_or, or_false, true_implies, imp_self, Int.ofNat_eq_natCast, not_true_eq_false, not_false_eq_true, Decidable.not_not]
  refine ⟨fun h1 => ⟨fun h2 => (decide_eq_true ⟨by omega, by omega⟩).symm, fun h2 => (decide_eq_false fun h => by omega).symm⟩, fun h1 => (decide_eq_false fun h => by omega).symm⟩
noncomputable def Sfew2 : Sum thy := sumPY (.cons (dInss E2) (.cons (dIntsE E2) .nil)) (fun _ => True) (fun x => decide (x.1.length ≤ 60 ∧ x.2.1.length ≤ 66)) fun y => .bool false y
theorem Sfew2_ok : SumOk E2 6 Sfew2 := sumPY_ok E2_ok (good_of (f := 6) rfl) fun x _ => up2 (few_pure x.1 x.2.1)
noncomputable def Srneeds2 : Sum thy := sumP (.cons (dInt (E := E2) .i64) .nil) (fun _ => True) fun x => .int false .i64 (needsF x.1)
theorem Srneeds2_ok : SumOk E2 12 Srneeds2 := sumP_ok E2_ok (good_of (f := 12) rfl) fun x _ => up2 (rneeds_pure x.1)
noncomputable def Sopen2 : Sum thy := sumPY (.cons dSt2 (.cons (dInt (E := E2) .i64) .nil)) (fun x => x.1.stack.length ≤ 1000000) (fun x => openF x.1 x.2.1) opnV
theorem Sopen2_ok : SumOk E2 7 Sopen2 := sumPY_ok E2_ok (good_of (f := 7) rfl) fun x h => open_pure x.1 x.2.1 h
noncomputable def Sstep2 : Sum thy := sumPY (.cons (dInss E2) (.cons dEnv2 (.cons dSt2 .nil))) (fun _ => True) (fun x => stepF x.1 x.2.1 x.2.2.1) fun y => .tup [stV y.1, .int false .i64 y.2]
theorem Sstep2_ok : SumOk E2 10 Sstep2 := sumPY_ok E2_ok (good_of (f := 10) rfl) fun x _ => up2 (step_pure x.1 x.2.1 x.2.2.1)
noncomputable def Sstepo2 : Sum thy := sumPY (.cons (dInss E2) (.cons dEnv2 (.cons dOpn2 .nil))) (fun _ => True) (fun x => stepOpenF x.1 x.2.1 x.2.2.1) fun y => .tup [opnV y.1, .int false .i64 y.2]
theorem Sstepo2_ok : SumOk E2 11 Sstepo2 := sumPY_ok E2_ok (good_of (f := 11) rfl) fun x _ => up2 (stepopen_pure x.1 x.2.1 x.2.2.1)
--@end
theorem pops_len (s : St) (n : Nat) (l : List Int) : (s.pops n l).stack.length ≤ s.stack.length + l.length := by
  show (s.stack.take _ ++ l).length ≤ _
  rw [List.length_append, List.length_take]; omega
theorem exec_len2 (x : Ins) (v : Env) (s : St) (b : Int) : (execF x v s b).1.stack.length ≤ s.stack.length + 1 := by
  unfold execF
  repeat' split
  all_goals first | exact Nat.le_succ _ | exact pops_len _ _ _ | exact Nat.le_trans (pops_len _ _ _) (by simp)
theorem adv_len2 (c : List Ins) (v : Env) (s : St) (b : Int) : (advF c v s b).stack.length ≤ s.stack.length + 1 := by
  unfold advF
  split
  · exact Nat.le_succ _
  · split
    · exact Nat.le_succ _
    · split
      · exact exec_len2 _ _ { s with fuel := s.fuel - 1 } _
      · exact Nat.le_succ _
theorem n32_id {d : List Int} (h : d.length = 32) : n32 d = d := by
  match d, h with
  | [a0, a1, a2, a3, a4, a5, a6, a7, a8, a9, a10, a11, a12, a13, a14, a15, a16, a17, a18, a19, a20, a21, a22, a23, a24, a25, a26, a27, a28, a29, a30, a31], _ => rfl
theorem hashF_len (i : Nat) (v : Val) : (hashF i v).length = 32 := by simp [hashF, shaF, digF]
theorem ontoF_len {d : List Int} (h : d.length = 32) (l : List Int) : (ontoF d l).length = 32 := by
  induction l generalizing d with
  | nil => exact h
  | cons a l ih => exact ih (hashF_len _ _)
theorem stackF_len (l : List Int) : (stackF l).length = 32 := ontoF_len rfl l
end Go.Proofs.YtcaomfbcchemnabDoor
