/- Merged texts: TtD, TtE, TvLay, TtG, TpB, TpC, TpD, EngZK, TpE, TpF, TtF, TtH, TpG, TpL, EngZL. -/
import Derived.Shelf.Strings.SlTrimAscii
import Derived.Shelf.Strings.OnBuilder
import Derived.Shelf.Strconv.Itoa0
import Derived.Shelf.Strconv.Itoa1
import Derived.Test.YtbepgmadijomjaaGreatDoorProg
import Derived.Test.YtbepgmadijomjaaGreatDoorMc
namespace Go.Proofs.YtbepgmadijomjaaGreatDoor
set_option linter.unusedVariables false
set_option linter.unusedSimpArgs false
set_option maxRecDepth 100000
section
open Go
def exA (x : Ex) : SV thy := .agg (encF false .exprs x)
noncomputable def dExp : DcL E (Ex × Unit) := .cons (dR .exprs) .nil
noncomputable def Z7h : DcL E (Ex × Int × Unit) := .cons (dR .exprs) (.cons (dInt (E := E) .i64) .nil)
theorem Vl {α : Type} {l : List α} {k : Nat} {y : α} (h : l[k]? = some y) : l.drop k = y :: l.drop (k + 1) := by
 have hk := (List.getElem?_eq_some_iff.1 h).1
 rw [List.drop_eq_getElem_cons hk]; congr 1; exact (List.getElem?_eq_some_iff.1 h).2
theorem Wt {α : Type} {l : List α} {k : Nat} (h : l.length ≤ k) : l.drop k = [] := List.drop_eq_nil_of_le h
noncomputable def Z86 (m : Nat) : Sum thy := sumP dExp (fun x => x.1.sz < m) fun x => .int false .i64 (Zw x.1 : Int)
def Z87 : Fr thy → Hp thy → Nat → Ann thy := fun T h i => { X := DX, fr := fun x => [(3, .int false .i64 x.j), (7, T 7), (8, T 8), (9, .int false .i64 x.k)], bl := fun x => [], src := fun _ => [], md := [], ih := i, M := i + 30, meas := fun x => x.r }
noncomputable def Z7i (m : Nat) : Fns thy := addL (addS F0 50 (Z86 m)) 50 3 Z87 E
theorem Zvq (m : Nat) (x : Ex) (v : Int) : Zk E F0 (vc E (Z7i m) 400) 50 [exA x] hp0 0 (fun r => ret E (patch hp0 0 r) r.v (.int false .i64 v)) = (
∃ (R : DX → Prop), (∃ (x_1 : DX), R x_1 ∧ true = true ∧ ((0 : Int) = DX.j x_1 ∧ (Ex.l x = Ex.l x ∧ (false = true → false = true)) ∧ (↑(List.length (Ex.l x)) : Int) = (↑(List.length (Ex.l x)) : Int) ∧ (0 : Int) = (↑(DX.k x_1) : Int) ∧ True) ∧ True) ∧ ∀ (x_1 : DX), R x_1 → (decide ((↑(DX.k x_1) : Int) < (↑(List.length (Ex.l x)) : Int)) = true → (0 : Int) ≤ (↑(DX.k x_1) : Int) ∧ (↑(DX.k x_1) : Int) + (1 : Int) ≤ (↑(List.length (Ex.l x)) : Int) ∧ ∀ (x_2 : Ex), (Ex.l x)[Int.toNat (↑(DX.k x_1) : Int)]? = some x_2 → Ex.sz (Ex.mk (Ex.op x_2) (Ex.n x_2) (Ex.d0 x_2) (Ex.d1 x_2) (Ex.d2 x_2) (Ex.d3 x_2) (Ex.l x_2)) + (1 : Nat) ≤ m ∧ ∃ (x' : DX), R x' ∧ x'.2 + (1 : Nat) ≤ x_1.2 ∧ true = true ∧ (mm2 true (DX.j x_1) (↑(Zw (Ex.mk (Ex.op x_2) (Ex.n x_2) (Ex.d0 x_2) (Ex.d1 x_2) (Ex.d2 x_2) (Ex.d3 x_2) (Ex.l x_2))) : Int) = DX.j x' ∧ (Ex.l x = Ex.l x ∧ (false = true → false = true)) ∧ (↑(List.length (Ex.l x)) : Int) = (↑(List.length (Ex.l x)) : Int) ∧ wr IntKind.i64 ((↑(DX.k x_1) : Int) + (1 : Int)) = (↑(DX.k x') : Int) ∧ True) ∧ True) ∧ (decide ((↑(DX.k x_1) : Int) < (↑(List.length (Ex.l x)) : Int)) = false → wr IntKind.i64 (DX.j x_1 + (1 : Int)) = v)) := by kernel_rfl
theorem Zrd {l : List Ex} {k : Nat} {y : Ex} (h : l[k]? = some y) : Zcr (l.drop k) = max (Zw y) (Zcr (l.drop (k + 1))) := by rw [Vl h, Zcr]
theorem Zzo : ∀ (m : Nat) (x : Ex), x.sz ≤ m → m ≤ 1000000000000 → PureC E 50 [exA x] (.int false .i64 (Zw x : Int)) := by
 intro m
 induction m with
 | zero => intro x h; have := x.sz_pos; omega
 | succ m ih =>
  intro x hm hb
  have hF : FnsOk E (Z7i (m + 1)) := Zv E_ok (Zb F0_ok (Yh E_ok (Zc (f := 50) rfl) fun x h => ih x.1 (by omega) (by omega))) _ _ _
  refine Za E_ok (Xt E_ok F0_ok fun f N c => (Zhl E_ok hF 400 f N c).1) ?_
  rw [Zvq]
  simp only [Z8, Z0, X2, X3, X4, beq_iff_eq, bne_iff_ne, beq_eq_false_iff_ne, bne_eq_false_iff_eq, decide_eq_true_eq, decide_eq_false_iff_not, Bool.or_eq_true, Bool.or_eq_false_iff, Bool.not_eq_true', Bool.not_eq_false', Bool.and_eq_true, Bool.and_true, Bool.true_and, Bool.and_eq_false_iff, beq_self_eq_true, Yx, Yn, ne_eq, and_true, true_and, Bool.true_eq_false, Bool.false_eq_true, false_or, or_false, true_implies, imp_self, Int.ofNat_eq_natCast, not_true_eq_false, not_false_eq_true, Decidable.not_not, Ex.eta]
  have hsz := x.sz_eq
  have hlen := Ex.szL_len x.l
  have hnx := Zxl x
  have hns := Znp x
  refine ⟨fun y => y.k ≤ x.l.length ∧ 0 ≤ y.j ∧ max y.j (Zcr (x.l.drop y.k) : Int) = (Zcr x.l : Int) ∧ y.r = x.l.length - y.k, ⟨⟨0, x.l.length, [], [], 0, 0, 0, 0⟩, ⟨(by dsimp only; omega), (by dsimp only; omega), by dsimp only; rw [List.drop_zero]; omega, rfl⟩, rfl, rfl⟩, ?_⟩
  rintro y ⟨hk, hj1, hv, hr⟩
  refine And.intro (fun hq => ?_) (fun hq => ?_)
  · refine ⟨by omega, by omega, fun z hz => ?_⟩
    have hz : x.l[y.k]? = some z := hz
    have hzs := Ex.sz_mem (List.mem_of_getElem? hz)
    rw [Zrd hz] at hv
    rw [wr64 (n := (y.k : Int) + 1) (by omega) (by omega)]
    exact ⟨by omega, ⟨y.k + 1, x.l.length - (y.k + 1), [], [], 0, 0, 0, max y.j (Zw z : Int)⟩, ⟨(by dsimp only; omega), (by dsimp only; omega), (by dsimp only; omega), rfl⟩, by show x.l.length - (y.k + 1) + 1 ≤ y.r; omega, rfl, rfl⟩
  · rw [Wt (by omega)] at hv
    simp only [Zcr] at hv
    rw [wr64 (by omega) (by omega)]
    omega
def dimA (a b c d : Int) : SV thy := .agg [.int false .i64 a, .int false .i64 b, .int false .i64 c, .int false .i64 d]
structure WX where
 k : Nat
 r : Nat
 m : List (Int × Int)
noncomputable def Z88 : Fr thy → Hp thy → Nat → Ann thy := fun T h i => { X := WX, fr := fun x => [(3, T 3), (7, T 7), (8, .int false .i64 x.k)], bl := fun x => [(bOf (T 3), .map (Y8 .i64 (X0 E Th.ints false) x.m))], src := fun _ => [], md := [bOf (T 3)], ih := i, M := i + 30, meas := fun x => x.r }
noncomputable def Z3z : Fns thy := addL F0 87 3 Z88 E
noncomputable abbrev qBE1 := (X0 E Th.ints (Zi (TypeDesc.int IntKind.i64)))
noncomputable abbrev qBE4 := (0 : Int)
noncomputable abbrev qBE2 (a0 : Int) (b0 : Int) (c0 : Int) (d0 : Int) := (List.getD [a0, b0, c0, d0] (0 : Nat) qBE4 = List.getD [a0, b0, c0, d0] (0 : Nat) qBE4 ∧ List.getD [a0, b0, c0, d0] (1 : Nat) qBE4 = List.getD [a0, b0, c0, d0] (1 : Nat) qBE4 ∧ List.getD [a0, b0, c0, d0] (2 : Nat) qBE4 = List.getD [a0, b0, c0, d0] (2 : Nat) qBE4 ∧ List.getD [a0, b0, c0, d0] (3 : Nat) qBE4 = List.getD [a0, b0, c0, d0] (3 : Nat) qBE4 ∧ True)
noncomputable abbrev qBE3 := (X0 E Th.ints false)
noncomputable abbrev qBE5 (a0 : WX) := (↑(WX.k a0) : Int)
noncomputable abbrev qBE6 := (1 : Int)
theorem Zvr (a b c d : Int) (v : Bool) : Zk E Z3z (vc E Z3z 400) 87 [dimA a b c d] hp0 0 (fun r => ret E (patch hp0 0 r) r.v (.bool false v)) = (
 (4 : Nat) = (4 : Nat) ∧ ∃ (R : WX → Prop), (∃ (x : WX), R x ∧ true = true ∧ (True ∧ (qBE2 a b c d) ∧ qBE4 = (qBE5 x) ∧ True) ∧ ([] = Y8 IntKind.i64 qBE3 (WX.m x) ∧ true = true) ∧ True) ∧ ∀ (x : WX), R x → (decide ((qBE5 x) < (4 : Int)) = true → qBE4 ≤ (qBE5 x) ∧ (qBE5 x) + qBE6 ≤ (↑(4 : Nat) : Int) ∧ ∀ (y : Int), [List.getD [a, b, c, d] (0 : Nat) qBE4, List.getD [a, b, c, d] (1 : Nat) qBE4, List.getD [a, b, c, d] (2 : Nat) qBE4, List.getD [a, b, c, d] (3 : Nat) qBE4][Int.toNat (qBE5 x)]? = some y → ∃ (l : List (Int × Int)), Y8 IntKind.i64 qBE3 (WX.m x) = Y8 IntKind.i64 qBE1 l ∧ ∀ (y_1 : Int), y_1 = Option.getD (Yu l y) qBE4 → ∃ (l : List (Int × Int)), Y8 IntKind.i64 qBE3 (WX.m x) = Y8 IntKind.i64 qBE1 l ∧ ∃ (x' : WX), R x' ∧ x'.2 + (1 : Nat) ≤ x.2 ∧ true = true ∧ (True ∧ (qBE2 a b c d) ∧ wr IntKind.i64 ((qBE5 x) + qBE6) = (qBE5 x') ∧ True) ∧ (Y8 IntKind.i64 qBE1 (putS l y (wr IntKind.i64 (y_1 + qBE6))) = Y8 IntKind.i64 qBE3 (WX.m x') ∧ nidE (0 : Nat) (Y8 IntKind.i64 qBE1 (putS l y (wr IntKind.i64 (y_1 + qBE6)))) = true) ∧ True) ∧ (decide ((qBE5 x) < (4 : Int)) = false → ∃ (l : List (Int × Int)), Y8 IntKind.i64 qBE3 (WX.m x) = Y8 IntKind.i64 qBE1 l ∧ ∀ (y : Int), y = Option.getD (Yu l qBE4) qBE4 → ∃ (l : List (Int × Int)), Y8 IntKind.i64 qBE3 (WX.m x) = Y8 IntKind.i64 qBE1 l ∧ ∀ (y_1 : Int), y_1 = Option.getD (Yu l qBE6) qBE4 → ∃ (l : List (Int × Int)), Y8 IntKind.i64 qBE3 (WX.m x) = Y8 IntKind.i64 qBE1 l ∧ ∀ (y_2 : Int), y_2 = Option.getD (Yu l (-1 : Int)) qBE4 → ((wr IntKind.i64 (wr IntKind.i64 (y + y_1) + y_2) == (4 : Int)) = true → ∃ (l : List (Int × Int)), Y8 IntKind.i64 qBE3 (WX.m x) = Y8 IntKind.i64 qBE1 l ∧ ∀ (y : Int), y = Option.getD (Yu l qBE6) qBE4 → (decide (y ≤ qBE6) = true → ∃ (l : List (Int × Int)), Y8 IntKind.i64 qBE3 (WX.m x) = Y8 IntKind.i64 qBE1 l ∧ ∀ (y : Int), y = Option.getD (Yu l (-1 : Int)) qBE4 → (decide (y ≤ qBE6) = true → true = v) ∧ (decide (y ≤ qBE6) = false → false = v)) ∧ (decide (y ≤ qBE6) = false → false = v)) ∧ ((wr IntKind.i64 (wr IntKind.i64 (y + y_1) + y_2) == (4 : Int)) = false → false = v))) := by kernel_rfl
theorem Zzp {u : List Int} {k : Nat} {y n : Int} (h : u[k]? = some y) : cnt (u.take (k + 1)) n = cnt (u.take k) n + (if y = n then 1 else 0) := by
 have hk := (List.getElem?_eq_some_iff.1 h).1
 have : u.take (k + 1) = u.take k ++ [y] := by rw [List.take_succ_eq_append_getElem hk]; congr 2; exact (List.getElem?_eq_some_iff.1 h).2
 unfold cnt
 rw [this, List.filter_append, List.length_append]
 by_cases e : y = n <;> simp [e]
theorem Zou (u : List Int) (n : Int) : cnt u n ≤ u.length := List.length_filter_le _ _
theorem Zzq : FnsOk E Z3z := Zv E_ok F0_ok _ _ _
theorem Zvs (a b c d : Int) : PureC E 87 [dimA a b c d] (.bool false (Zaf [a, b, c, d])) := by
 refine Za E_ok (Zg E_ok Zzq 400) ?_
 rw [Zvr]; delta qBE1 qBE4 qBE2 qBE3 qBE5 qBE6
 simp only [Z8, Z0, X2, X3, X4, beq_iff_eq, bne_iff_ne, beq_eq_false_iff_ne, bne_eq_false_iff_eq, decide_eq_true_eq, decide_eq_false_iff_not, Bool.or_eq_true, Bool.or_eq_false_iff, Bool.not_eq_true', Bool.not_eq_false', Bool.and_eq_true, Bool.and_true, Bool.true_and, Bool.and_eq_false_iff, beq_self_eq_true, Yx, Yn, ne_eq, and_true, true_and, Bool.true_eq_false, Bool.false_eq_true, false_or, or_false, true_implies, imp_self, Int.ofNat_eq_natCast, not_true_eq_false, not_false_eq_true, Decidable.not_not]
 have hc : ∀ k n, k ≤ 4 → cnt ([a, b, c, d].take k) n ≤ 4 := fun k n hk => Nat.le_trans (Zou _ _) (by simp; omega)
 refine ⟨fun x => x.k ≤ 4 ∧ (∀ n, (Yu x.m n).getD 0 = (cnt ([a, b, c, d].take x.k) n : Int)) ∧ x.r = 4 - x.k, ⟨⟨0, 4, []⟩, ⟨(by dsimp only; omega), fun n => rfl, rfl⟩, rfl, rfl⟩, ?_⟩
 rintro x ⟨hk, hm, hr⟩
 refine And.intro (fun hq => ⟨by omega, by omega, fun y hy => ⟨x.m, rfl, fun y1 h1 => ⟨x.m, rfl, ?_⟩⟩⟩) (fun hq => ?_)
 · have hy : [a, b, c, d][x.k]? = some y := hy
   have := hc x.k y (by omega)
   rw [hm y] at h1
   rw [wr64 (n := (x.k : Int) + 1) (by omega) (by omega), wr64 (n := y1 + 1) (by omega) (by omega)]
   refine ⟨⟨x.k + 1, 3 - x.k, putS x.m y (y1 + 1)⟩, ⟨by show x.k + 1 ≤ 4; omega, fun n => ?_, by show 3 - x.k = 4 - (x.k + 1); omega⟩, by show 3 - x.k + 1 ≤ x.r; omega, rfl, rfl, Zgi E_ok _⟩
   show (Yu (putS x.m y (y1 + 1)) n).getD 0 = (cnt ([a, b, c, d].take (x.k + 1)) n : Int)
   rw [Ze7, Zzp hy]
   by_cases e : y = n
   · subst e; rw [if_pos rfl, if_pos rfl, h1]; simp
   · rw [if_neg e, if_neg e, hm n]; simp
 · have hk4 : x.k = 4 := by omega
   have hm : ∀ n, (Yu x.m n).getD 0 = (cnt [a, b, c, d] n : Int) := fun n => by rw [hm n, hk4]; rfl
   have h0 := Zou [a, b, c, d] 0
   have h1 := Zou [a, b, c, d] 1
   have h2 := Zou [a, b, c, d] (-1)
   simp only [List.length_cons, List.length_nil] at h0 h1 h2
   refine ⟨x.m, rfl, fun y hy => ⟨x.m, rfl, fun y1 hy1 => ⟨x.m, rfl, fun y2 hy2 => ?_⟩⟩⟩
   rw [hm] at hy hy1 hy2
   rw [wr64 (n := y + y1) (by omega) (by omega), wr64 (n := y + y1 + y2) (by omega) (by omega)]
   unfold Zaf
   refine And.intro (fun h3 => ⟨x.m, rfl, fun z hz => ?_⟩) (fun h3 => ?_)
   · rw [hm] at hz
     refine And.intro (fun h4 => ⟨x.m, rfl, fun z2 hz2 => ?_⟩) (fun h4 => ?_)
     · rw [hm] at hz2
       refine And.intro (fun h5 => ?_) (fun h5 => ?_)
       · simp; omega
       · symm; simp only [Bool.and_eq_false_iff, decide_eq_false_iff_not]; omega
     · symm; simp only [Bool.and_eq_false_iff, decide_eq_false_iff_not]; omega
   · symm; simp only [Bool.and_eq_false_iff, decide_eq_false_iff_not]; omega
end
section
open Go
noncomputable def dDim : DcL E (List Int × Unit) := dA1 (dR .dims)
noncomputable def Z49 : Sum thy := sumP dDim (fun _ => True) fun x => .bool false (Zaf [x.1.getD 0 0, x.1.getD 1 0, x.1.getD 2 0, x.1.getD 3 0])
theorem Zw7 : SumOk E 87 Z49 := Yh E_ok (Zc (f := 87) rfl) fun x _ => Zvs _ _ _ _
noncomputable def Z78 (m : Nat) : Sum thy := sumP dExp (fun x => x.1.sz < m) fun x => .bool false (Yd x.1)
noncomputable def Z79 : Dc E (List Ex) := (Zpw (E := E) Th.exprs : Dc E (List (thy.dom Th.exprs)))
noncomputable def Z8a (m : Nat) : Sum thy := sumP (dA2 Z79 (dFun 89)) (fun x => Ex.szL x.1 < m) fun x => .bool false (!Vz x.1)
def Aidx : Fr thy → Hp thy → Nat → Ann thy := fun T h i => { X := DX, fr := fun x => [(0, T 0), (1, T 1), (7, T 7), (8, .int false .i64 x.k)], bl := fun x => [], src := fun _ => [], md := [], ih := i, M := i + 30, meas := fun x => x.r }
noncomputable def Z18 (m : Nat) : Fns thy := addL (addS F0 49 (Z78 m)) 137 2 Aidx E
theorem Zr5 (m : Nat) (l : List Ex) (v : Bool) : Zk E (Z18 m) (vc E (Z18 m) 400) 88 [.psl Th.exprs l false, .fn (.func 89) [] []] hp0 0 (fun r => ret E (patch hp0 0 r) r.v (.bool false v)) = (
∃ (R : DX → Prop), (∃ (x : DX), R x ∧ true = true ∧ ((l = l ∧ (false = true → false = true)) ∧ (Fn.func (89 : FuncId) = Fn.func (89 : FuncId) ∧ True ∧ True) ∧ (↑(List.length l) : Int) = (↑(List.length l) : Int) ∧ (0 : Int) = (↑(DX.k x) : Int) ∧ True) ∧ True) ∧ ∀ (x : DX), R x → (decide ((↑(DX.k x) : Int) < (↑(List.length l) : Int)) = true → (0 : Int) ≤ (↑(DX.k x) : Int) ∧ (↑(DX.k x) : Int) + (1 : Int) ≤ (↑(List.length l) : Int) ∧ ∀ (x_1 : Ex), l[Int.toNat (↑(DX.k x) : Int)]? = some x_1 → Ex.sz (Ex.mk (Ex.op x_1) (Ex.n x_1) (Ex.d0 x_1) (Ex.d1 x_1) (Ex.d2 x_1) (Ex.d3 x_1) (Ex.l x_1)) + (1 : Nat) ≤ m ∧ ((!Yd (Ex.mk (Ex.op x_1) (Ex.n x_1) (Ex.d0 x_1) (Ex.d1 x_1) (Ex.d2 x_1) (Ex.d3 x_1) (Ex.l x_1))) = true → (decide ((↑(DX.k x) : Int) ≥ (0 : Int)) = true → true = v) ∧ (decide ((↑(DX.k x) : Int) ≥ (0 : Int)) = false → false = v)) ∧ ((!Yd (Ex.mk (Ex.op x_1) (Ex.n x_1) (Ex.d0 x_1) (Ex.d1 x_1) (Ex.d2 x_1) (Ex.d3 x_1) (Ex.l x_1))) = false → ∃ (x' : DX), R x' ∧ x'.2 + (1 : Nat) ≤ x.2 ∧ true = true ∧ ((l = l ∧ (false = true → false = true)) ∧ (Fn.func (89 : FuncId) = Fn.func (89 : FuncId) ∧ True ∧ True) ∧ (↑(List.length l) : Int) = (↑(List.length l) : Int) ∧ wr IntKind.i64 ((↑(DX.k x) : Int) + (1 : Int)) = (↑(DX.k x') : Int) ∧ True) ∧ True)) ∧ (decide ((↑(DX.k x) : Int) < (↑(List.length l) : Int)) = false → false = v)) := by kernel_rfl
theorem Zr6 (m : Nat) (hm : m ≤ 1000000000000) (ih : ∀ x : Ex, x.sz < m → PureC E 49 [exA x] (.bool false (Yd x))) (l : List Ex) (hl : Ex.szL l < m) : PureC E 88 [.psl Th.exprs l false, .fn (.func 89) [] []] (.bool false (!Vz l)) := by
 have hF : FnsOk E (Z18 m) := Zv E_ok (Zb F0_ok (Yh E_ok (Zc (f := 49) rfl) fun x h => ih x.1 h)) _ _ _
 refine Za E_ok (Zg E_ok hF 400) ?_
 rw [Zr5]
 simp only [Z8, Z0, X2, X3, X4, beq_iff_eq, bne_iff_ne, beq_eq_false_iff_ne, bne_eq_false_iff_eq, decide_eq_true_eq, decide_eq_false_iff_not, Bool.or_eq_true, Bool.or_eq_false_iff, Bool.not_eq_true', Bool.not_eq_false', Bool.and_eq_true, Bool.and_true, Bool.true_and, Bool.and_eq_false_iff, beq_self_eq_true, Yx, Yn, ne_eq, and_true, true_and, Bool.true_eq_false, Bool.false_eq_true, false_or, or_false, true_implies, imp_self, Int.ofNat_eq_natCast, not_true_eq_false, not_false_eq_true, Decidable.not_not, Ex.eta]
 have hlen := Ex.szL_len l
 refine ⟨fun x => x.k ≤ l.length ∧ Vz (l.drop x.k) = Vz l ∧ x.r = l.length - x.k, ⟨⟨0, l.length, [], [], 0, 0, 0, 0⟩, ⟨(by dsimp only; omega), rfl, rfl⟩, rfl⟩, ?_⟩
 rintro x ⟨hk, hv, hr⟩
 refine And.intro (fun hq => ⟨by omega, by omega, fun y hy => ?_⟩) (fun hq => ?_)
 · have hy : l[x.k]? = some y := hy
   rw [Zpx hy] at hv
   have hys := Ex.szL_mem (List.mem_of_getElem? hy)
   refine ⟨by omega, fun h1 => ?_, fun h1 => ?_⟩
   · rw [h1] at hv
     rw [← hv]
     exact And.intro (fun _ => rfl) (fun h => by omega)
   · rw [h1, Bool.true_and] at hv
     exact ⟨⟨x.k + 1, l.length - (x.k + 1), [], [], 0, 0, 0, 0⟩, ⟨(by dsimp only; omega), hv, rfl⟩, by show l.length - (x.k + 1) + 1 ≤ x.r; omega, wr64 (by omega) (by omega)⟩
 · rw [Wt (by omega)] at hv
   rw [← hv]; rfl
noncomputable def Z19 (m : Nat) : Fns thy := addS (addS F0 88 (Z8a m)) 87 Z49
abbrev qBF4 := (0 : Int)
abbrev qBF2 (a0 : Ex) := (!Zaf [List.getD [Ex.d0 a0, Ex.d1 a0, Ex.d2 a0, Ex.d3 a0] (0 : Nat) qBF4, List.getD [Ex.d0 a0, Ex.d1 a0, Ex.d2 a0, Ex.d3 a0] (1 : Nat) qBF4, List.getD [Ex.d0 a0, Ex.d1 a0, Ex.d2 a0, Ex.d3 a0] (2 : Nat) qBF4, List.getD [Ex.d0 a0, Ex.d1 a0, Ex.d2 a0, Ex.d3 a0] (3 : Nat) qBF4])
abbrev qBF7 (a0 : Ex) := (!(Ex.d0 a0 == qBF4 && (Ex.d1 a0 == qBF4 && (Ex.d2 a0 == qBF4 && (Ex.d3 a0 == qBF4 && true)))))
abbrev qBF1 (a0 : Ex) (b0 : Bool) (c0 : Nat) := ((qBF2 a0) = false → ((Ex.op a0 != (1 : Int)) = true → ((qBF7 a0) = true → false = b0) ∧ ((qBF7 a0) = false → Ex.szL (Ex.l a0) + (1 : Nat) ≤ c0 ∧ (!!Vz (Ex.l a0)) = b0)) ∧ ((Ex.op a0 != (1 : Int)) = false → Ex.szL (Ex.l a0) + (1 : Nat) ≤ c0 ∧ (!!Vz (Ex.l a0)) = b0))
abbrev qBF3 (a0 : Ex) := (↑(List.length (Ex.l a0)) : Int)
abbrev qBF5 (a0 : Ex) (b0 : Bool → Prop) := ((decide (Ex.op a0 < (1 : Int)) = true → b0 true) ∧ (decide (Ex.op a0 < (1 : Int)) = false → (decide (Ex.op a0 > (11 : Int)) = true → b0 true) ∧ (decide (Ex.op a0 > (11 : Int)) = false → b0 false)))
abbrev qBF6 (a0 : Ex) (b0 : Bool) := (decide (Ex.n a0 < qBF4) = true → false = b0)
theorem Zr7 (m : Nat) (x : Ex) (v : Bool) : Zk E (Z19 m) (vc E (Z19 m) 400) 49 [exA x] hp0 0 (fun r => ret E (patch hp0 0 r) r.v (.bool false v)) = (
 ((Ex.op x == (1 : Int)) = true → (qBF6 x v) ∧ (decide (Ex.n x < qBF4) = false → (decide (Ex.n x > (1099511627776 : Int)) = true → false = v) ∧ (decide (Ex.n x > (1099511627776 : Int)) = false → (((qBF3 x) != qBF4) = true → false = v) ∧ (((qBF3 x) != qBF4) = false → True ∧ ((qBF2 x) = true → false = v) ∧ (qBF1 x v m))))) ∧ ((Ex.op x == (1 : Int)) = false → ((Ex.op x == (2 : Int)) = true → (qBF6 x v) ∧ (decide (Ex.n x < qBF4) = false → (decide (Ex.n x > (15 : Int)) = true → false = v) ∧ (decide (Ex.n x > (15 : Int)) = false → (((qBF3 x) != qBF4) = true → false = v) ∧ (((qBF3 x) != qBF4) = false → True ∧ ((qBF2 x) = true → false = v) ∧ (qBF1 x v m))))) ∧ ((Ex.op x == (2 : Int)) = false → ((Ex.op x == (11 : Int)) = true → ∃ (Q : Bool → Prop), (qBF5 x Q) ∧ (Q true → false = v) ∧ (Q false → (qBF6 x v) ∧ (decide (Ex.n x < qBF4) = false → (decide (Ex.n x > qBF4) = true → false = v) ∧ (decide (Ex.n x > qBF4) = false → (((qBF3 x) != (4 : Int)) = true → false = v) ∧ (((qBF3 x) != (4 : Int)) = false → True ∧ ((qBF2 x) = true → false = v) ∧ (qBF1 x v m)))))) ∧ ((Ex.op x == (11 : Int)) = false → ∃ (Q : Bool → Prop), (qBF5 x Q) ∧ (Q true → false = v) ∧ (Q false → (qBF6 x v) ∧ (decide (Ex.n x < qBF4) = false → (decide (Ex.n x > qBF4) = true → false = v) ∧ (decide (Ex.n x > qBF4) = false → (((qBF3 x) != (2 : Int)) = true → false = v) ∧ (((qBF3 x) != (2 : Int)) = false → True ∧ ((qBF2 x) = true → false = v) ∧ (qBF1 x v m))))))))) := by kernel_rfl
theorem Zis (x : Ex) : Yd x = true ↔ (1 ≤ x.op ∧ x.op ≤ 11 ∧ 0 ≤ x.n ∧ (x.op = 1 → x.n ≤ 1099511627776) ∧ (x.op = 2 → x.n ≤ 15) ∧ (x.op ≠ 1 → x.op ≠ 2 → x.n ≤ 0) ∧ (x.op = 1 ∨ x.op = 2 → x.l.length = 0) ∧ (x.op = 11 → x.l.length = 4) ∧ (x.op ≠ 1 → x.op ≠ 2 → x.op ≠ 11 → x.l.length = 2) ∧
 (x.op = 1 ∨ (x.d0 = 0 ∧ x.d1 = 0 ∧ x.d2 = 0 ∧ x.d3 = 0))) ∧ Zaf [x.d0, x.d1, x.d2, x.d3] = true ∧ Vz x.l = true := by
 rw [Zcy]
 simp only [Zi0, Bool.and_eq_true, Bool.or_eq_true, decide_eq_true_eq, Ex.u, List.cons.injEq, and_true]
 unfold Zxm Zsk
 constructor
 · rintro ⟨⟨⟨⟨⟨⟨⟨h1, h2⟩, h3⟩, h4⟩, h5⟩, h6⟩, h7⟩, h8⟩
   refine ⟨⟨h1, h2, h3, fun h => ?_, fun h => ?_, fun h h' => ?_, fun h => ?_, fun h => ?_, fun h h' h'' => ?_, h7⟩, h6, h8⟩
   · rw [if_pos h] at h4; exact h4
   · rw [if_neg (by omega), if_pos h] at h4; exact h4
   · rw [if_neg h, if_neg h'] at h4; exact h4
   · rw [if_pos h] at h5; exact h5
   · rw [if_neg (by omega), if_pos h] at h5; exact h5
   · rw [if_neg (by omega), if_neg h''] at h5; exact h5
 · rintro ⟨⟨h1, h2, h3, h4, h5, h6, h7, h8, h9, h10⟩, h11, h12⟩
   refine ⟨⟨⟨⟨⟨⟨⟨h1, h2⟩, h3⟩, ?_⟩, ?_⟩, h11⟩, h10⟩, h12⟩
   · split
     · exact h4 ‹_›
     · split
       · exact h5 ‹_›
       · exact h6 ‹_› ‹_›
   · split
     · exact h7 ‹_›
     · split
       · exact h8 ‹_›
       · exact h9 (by omega) (by omega) ‹_›
theorem Zw8 {x : Ex} (h : ((1 ≤ x.op ∧ x.op ≤ 11 ∧ 0 ≤ x.n ∧ (x.op = 1 → x.n ≤ 1099511627776) ∧ (x.op = 2 → x.n ≤ 15) ∧ (x.op ≠ 1 → x.op ≠ 2 → x.n ≤ 0) ∧ (x.op = 1 ∨ x.op = 2 → x.l.length = 0) ∧ (x.op = 11 → x.l.length = 4) ∧ (x.op ≠ 1 → x.op ≠ 2 → x.op ≠ 11 → x.l.length = 2) ∧
 (x.op = 1 ∨ (x.d0 = 0 ∧ x.d1 = 0 ∧ x.d2 = 0 ∧ x.d3 = 0))) → Zaf [x.d0, x.d1, x.d2, x.d3] = true → False)) : false = Yd x := by
 symm; rw [Bool.eq_false_iff]; intro h'
 have := (Zis x).1 h'
 exact h this.1 this.2.1
theorem Zr8 {x : Ex} {b : Bool} (hb : b = Vz x.l) (h : (1 ≤ x.op ∧ x.op ≤ 11 ∧ 0 ≤ x.n ∧ (x.op = 1 → x.n ≤ 1099511627776) ∧ (x.op = 2 → x.n ≤ 15) ∧ (x.op ≠ 1 → x.op ≠ 2 → x.n ≤ 0) ∧ (x.op = 1 ∨ x.op = 2 → x.l.length = 0) ∧ (x.op = 11 → x.l.length = 4) ∧ (x.op ≠ 1 → x.op ≠ 2 → x.op ≠ 11 → x.l.length = 2) ∧
 (x.op = 1 ∨ (x.d0 = 0 ∧ x.d1 = 0 ∧ x.d2 = 0 ∧ x.d3 = 0)))) (hw : Zaf [x.d0, x.d1, x.d2, x.d3] = true) : b = Yd x := by
 rw [Bool.eq_iff_iff, Zis, hb]
 exact ⟨fun h' => ⟨h, hw, h'⟩, fun h' => h'.2.2⟩
theorem Zw9 : ∀ (m : Nat), m ≤ 1000000000000 → ∀ (x : Ex), x.sz < m → PureC E 49 [exA x] (.bool false (Yd x)) := by
 intro m
 induction m with
 | zero => intro _ x h; omega
 | succ m ih =>
  intro hb x hm
  have hF : FnsOk E (Z19 m) := Zb (Zb F0_ok (Yh E_ok (Zc (f := 88) rfl) fun x h => Zr6 m (by omega) (ih (by omega)) x.1 h)) Zw7
  refine Za E_ok (Zg E_ok hF 400) ?_
  rw [Zr7]; delta qBF4 qBF2 qBF7 qBF1 qBF3 qBF5 qBF6
  have hsz := x.sz_eq
  repeat' (first | exact Z2j _ | apply Z5e | apply JR_some | apply JR_and | apply Z5f | (refine And.intro ?_ ?_) | (intro h))
  all_goals (simp only [Z8, Z0, X2, X3, X4, beq_iff_eq, bne_iff_ne, beq_eq_false_iff_ne, bne_eq_false_iff_eq, decide_eq_true_eq, decide_eq_false_iff_not, Bool.or_eq_true, Bool.or_eq_false_iff, Bool.not_eq_true', Bool.not_eq_false', Bool.and_eq_true, Bool.and_true, Bool.true_and, Bool.and_eq_false_iff, beq_self_eq_true, Yx, Yn, ne_eq, and_true, true_and, Bool.true_eq_false, Bool.false_eq_true, false_or, or_false, true_implies, imp_self, Int.ofNat_eq_natCast, not_true_eq_false, not_false_eq_true, Decidable.not_not, List.getD_cons_zero, List.getD_cons_succ] at *)
  all_goals first | trivial | omega | (exact Zw8 (fun h hw => by first | omega | (simp_all; done))) | (exact Zr8 (by simp) (by omega) (by simp_all))
def in1 (d : Int) : Bool := decide (-1 ≤ d) && decide (d ≤ 1)
theorem Zgp (x : Int) (r : List Int) (n : Int) : cnt (x :: r) n = (if x = n then 1 else 0) + cnt r n := by
 unfold cnt
 by_cases h : x = n <;> simp [h, Nat.add_comm]
theorem Zr9 : ∀ u : List Int, cnt u 0 + cnt u 1 + cnt u (-1) ≤ u.length ∧ (cnt u 0 + cnt u 1 + cnt u (-1) = u.length ↔ u.all in1 = true)
 | [] => by simp [cnt]
 | x :: r => by
  obtain ⟨h1, h2⟩ := Zr9 r
  rw [Zgp, Zgp, Zgp, List.all_cons, List.length_cons, Bool.and_eq_true, ← h2]
  unfold in1
  rw [Bool.and_eq_true, decide_eq_true_eq, decide_eq_true_eq]
  by_cases e0 : x = 0
  · subst e0; simp; omega
  · by_cases e1 : x = 1
    · subst e1; simp; omega
    · by_cases e2 : x = -1
      · subst e2; simp; omega
      · rw [if_neg e0, if_neg e1, if_neg e2]
        omega
theorem Zsa (a b c d : Int) : Zaf [a, b, c, d] = ([a, b, c, d].all in1 && (decide (cnt [a, b, c, d] 1 ≤ 1) && decide (cnt [a, b, c, d] (-1) ≤ 1))) := by
 have h := (Zr9 [a, b, c, d]).2
 have : [a, b, c, d].length = 4 := rfl
 rw [this] at h
 unfold Zaf
 rw [Bool.eq_iff_iff, Bool.and_eq_true, Bool.and_eq_true, Bool.and_eq_true, Bool.and_eq_true, decide_eq_true_eq, h, and_assoc]
end
end Go.Proofs.YtbepgmadijomjaaGreatDoor
/-
  DERIVED: THE SHELF's CONTRACTS AT THIS DUMP, IN PLAIN WORDS (tools/lay-plain.mjs out of 'YtbepgmadijomjaaGreatDoorTvLay0.lean', which tools/lay-shelf.mjs wrote): THE SAME DECLARATIONS UNDER THE SAME NAMES: 'import', 'namespace', 'open', 'def', 'theorem' AND NOTHING ELSE: no command of the shelf's: FOR A HAND-IN. Each laying: the table of numbers ('.._ren') and one theorem, a field a fact of the dump's own or the kernel's comparison; each contract: ONE APPLICATION.
-/
namespace Go.Proofs
open Go.Shelf
def Tryz.lays160_ren : Go.Shelf.Ren := ⟨fun | 160 => 86 | 232 => 131 | 231 => 130 | 227 => 132 | 234 => 134 | 233 => 133 | 236 => 136 | 235 => 135 | 228 => 153 | 271 => 156 | 151 => 155 | 197 => 154 | 120 => 161 | 152 => 160 | 260 => 159 | 137 => 58 | 119 => 168 | 224 => 169 | 225 => 170 | 217 => 93 | 266 => 140 | n => n, fun | 9 => 9 | 4 => 4 | 3 => 3 | 5 => 5 | 117 => 154 | 116 => 153 | 0 => 0 | 124 => 157 | 21 => 21 | 105 => 178 | 46 => 182 | 119 => 109 | 139 => 195 | 138 => 194 | n => n, fun | 3 => 5 | 4 => 6 | n => n⟩
theorem Tryz.lays160 : Go.Proofs.Lays.n160 Tryz.prog Tryz.lays160_ren := {
  mixed := by kernel_rfl
  f119 := Tryz.func168.trans (congrArg some (by kernel_rfl))
  f120 := Tryz.func161.trans (congrArg some (by kernel_rfl))
  f137 := Tryz.func58.trans (congrArg some (by kernel_rfl))
  f151 := Tryz.func155.trans (congrArg some (by kernel_rfl))
  f152 := Tryz.func160.trans (congrArg some (by kernel_rfl))
  f160 := Tryz.func86.trans (congrArg some (by kernel_rfl))
  f197 := Tryz.func154.trans (congrArg some (by kernel_rfl))
  f217 := Tryz.func93.trans (congrArg some (by kernel_rfl))
  f224 := Tryz.func169.trans (congrArg some (by kernel_rfl))
  f225 := Tryz.func170.trans (congrArg some (by kernel_rfl))
  f227 := Tryz.func132.trans (congrArg some (by kernel_rfl))
  f228 := Tryz.func153.trans (congrArg some (by kernel_rfl))
  f231 := Tryz.func130.trans (congrArg some (by kernel_rfl))
  f232 := Tryz.func131.trans (congrArg some (by kernel_rfl))
  f233 := Tryz.func133.trans (congrArg some (by kernel_rfl))
  f234 := Tryz.func134.trans (congrArg some (by kernel_rfl))
  f235 := Tryz.func135.trans (congrArg some (by kernel_rfl))
  f236 := Tryz.func136.trans (congrArg some (by kernel_rfl))
  f260 := Tryz.func159.trans (congrArg some (by kernel_rfl))
  f266 := Tryz.func140.trans (congrArg some (by kernel_rfl))
  f271 := Tryz.func156.trans (congrArg some (by kernel_rfl))
  t0 := Tryz.underlying0
  a0 := Tryz.isAgg0
  z0 := Tryz.sizeOf0
  v0 := Tryz.zeroValue0
  t3 := Tryz.underlying3
  a3 := Tryz.isAgg3
  z3 := Tryz.sizeOf3
  v3 := Tryz.zeroValue3
  t4 := Tryz.underlying4
  a4 := Tryz.isAgg4
  z4 := Tryz.sizeOf4
  v4 := Tryz.zeroValue4
  t5 := Tryz.underlying5
  a5 := Tryz.isAgg5
  z5 := Tryz.sizeOf5
  v5 := Tryz.zeroValue5
  t9 := Tryz.underlying9
  a9 := Tryz.isAgg9
  z9 := Tryz.sizeOf9
  v9 := Tryz.zeroValue9
  t21 := Tryz.underlying21
  a21 := Tryz.isAgg21
  z21 := Tryz.sizeOf21
  v21 := Tryz.zeroValue21
  t46 := Tryz.underlying182
  a46 := Tryz.isAgg182
  z46 := Tryz.sizeOf182
  v46 := Tryz.zeroValue182
  t105 := Tryz.underlying178
  a105 := Tryz.isAgg178
  z105 := Tryz.sizeOf178
  v105 := Tryz.zeroValue178
  t116 := Tryz.underlying153
  a116 := Tryz.isAgg153
  z116 := Tryz.sizeOf153
  t117 := Tryz.underlying154
  a117 := Tryz.isAgg154
  z117 := Tryz.sizeOf154
  v117 := Tryz.zeroValue154
  t119 := Tryz.underlying109
  a119 := Tryz.isAgg109
  z119 := Tryz.sizeOf109
  t124 := Tryz.underlying157
  a124 := Tryz.isAgg157
  z124 := Tryz.sizeOf157
  v124 := Tryz.zeroValue157
  t138 := Tryz.underlying194
  a138 := Tryz.isAgg194
  z138 := Tryz.sizeOf194
  v138 := Tryz.zeroValue194
  t139 := Tryz.underlying195
  a139 := Tryz.isAgg195
  z139 := Tryz.sizeOf195
  v139 := Tryz.zeroValue195
  g3 := by kernel_rfl
  g4 := by kernel_rfl }
def Tryz.lays156_ren : Go.Shelf.Ren := ⟨fun | 156 => 44 | 165 => 80 | 166 => 81 | 169 => 82 | 240 => 122 | 241 => 123 | 276 => 150 | 277 => 151 | n => n, fun | 31 => 80 | 9 => 9 | 3 => 3 | 4 => 4 | 0 => 0 | 20 => 20 | 72 => 117 | 76 => 120 | 70 => 114 | 37 => 115 | 75 => 119 | 127 => 147 | 164 => 175 | 5 => 5 | 80 => 70 | n => n, fun | n => n⟩
theorem Tryz.lays156 : Go.Proofs.Lays.n156 Tryz.prog Tryz.lays156_ren := {
  mixed := by kernel_rfl
  f156 := Tryz.func44.trans (congrArg some (by kernel_rfl))
  f165 := Tryz.func80.trans (congrArg some (by kernel_rfl))
  f166 := Tryz.func81.trans (congrArg some (by kernel_rfl))
  f169 := Tryz.func82.trans (congrArg some (by kernel_rfl))
  f240 := Tryz.func122.trans (congrArg some (by kernel_rfl))
  f241 := Tryz.func123.trans (congrArg some (by kernel_rfl))
  f276 := Tryz.func150.trans (congrArg some (by kernel_rfl))
  f277 := Tryz.func151.trans (congrArg some (by kernel_rfl))
  t0 := Tryz.underlying0
  a0 := Tryz.isAgg0
  z0 := Tryz.sizeOf0
  v0 := Tryz.zeroValue0
  t3 := Tryz.underlying3
  a3 := Tryz.isAgg3
  z3 := Tryz.sizeOf3
  v3 := Tryz.zeroValue3
  t4 := Tryz.underlying4
  a4 := Tryz.isAgg4
  z4 := Tryz.sizeOf4
  v4 := Tryz.zeroValue4
  t9 := Tryz.underlying9
  a9 := Tryz.isAgg9
  z9 := Tryz.sizeOf9
  v9 := Tryz.zeroValue9
  t20 := Tryz.underlying20
  a20 := Tryz.isAgg20
  z20 := Tryz.sizeOf20
  v20 := Tryz.zeroValue20
  t31 := Tryz.underlying80
  a31 := Tryz.isAgg80
  z31 := Tryz.sizeOf80
  v31 := Tryz.zeroValue80
  t37 := Tryz.underlying115
  a37 := Tryz.isAgg115
  z37 := Tryz.sizeOf115
  v37 := Tryz.zeroValue115
  t70 := Tryz.underlying114
  a70 := Tryz.isAgg114
  z70 := Tryz.sizeOf114
  v70 := Tryz.zeroValue114
  t72 := Tryz.underlying117
  a72 := Tryz.isAgg117
  z72 := Tryz.sizeOf117
  v72 := Tryz.zeroValue117
  t75 := Tryz.underlying119
  a75 := Tryz.isAgg119
  z75 := Tryz.sizeOf119
  v75 := Tryz.zeroValue119
  t76 := Tryz.underlying120
  a76 := Tryz.isAgg120
  z76 := Tryz.sizeOf120
  v76 := Tryz.zeroValue120
  t127 := Tryz.underlying147
  a127 := Tryz.isAgg147
  z127 := Tryz.sizeOf147
  v127 := Tryz.zeroValue147
  t164 := Tryz.underlying175
  a164 := Tryz.isAgg175
  z164 := Tryz.sizeOf175
  v164 := Tryz.zeroValue175 }
def Tryz.lays129_ren : Go.Shelf.Ren := ⟨fun | 129 => 172 | n => n, fun | 53 => 188 | 3 => 3 | 4 => 4 | 46 => 182 | 5 => 5 | 9 => 9 | n => n, fun | n => n⟩
theorem Tryz.lays129 : Go.Proofs.Lays.n129 Tryz.prog Tryz.lays129_ren := {
  mixed := by kernel_rfl
  f129 := Tryz.func172.trans (congrArg some (by kernel_rfl))
  t3 := Tryz.underlying3
  a3 := Tryz.isAgg3
  z3 := Tryz.sizeOf3
  v3 := Tryz.zeroValue3
  t4 := Tryz.underlying4
  a4 := Tryz.isAgg4
  z4 := Tryz.sizeOf4
  v4 := Tryz.zeroValue4
  t5 := Tryz.underlying5
  a5 := Tryz.isAgg5
  z5 := Tryz.sizeOf5
  v5 := Tryz.zeroValue5
  t9 := Tryz.underlying9
  a9 := Tryz.isAgg9
  z9 := Tryz.sizeOf9
  v9 := Tryz.zeroValue9
  t46 := Tryz.underlying182
  a46 := Tryz.isAgg182
  z46 := Tryz.sizeOf182
  v46 := Tryz.zeroValue182
  t53 := Tryz.underlying188
  a53 := Tryz.isAgg188
  z53 := Tryz.sizeOf188
  v53 := Tryz.zeroValue188 }
def Tryz.lays317_ren : Go.Shelf.Ren := ⟨fun | 317 => 171 | n => n, fun | 3 => 3 | 46 => 182 | n => n, fun | n => n⟩
theorem Tryz.lays317 : Go.Proofs.Lays.n317 Tryz.prog Tryz.lays317_ren := {
  mixed := by kernel_rfl
  f317 := Tryz.func171.trans (congrArg some (by kernel_rfl))
  t3 := Tryz.underlying3
  a3 := Tryz.isAgg3
  z3 := Tryz.sizeOf3
  v3 := Tryz.zeroValue3
  t46 := Tryz.underlying182
  a46 := Tryz.isAgg182
  z46 := Tryz.sizeOf182
  v46 := Tryz.zeroValue182 }
def Tryz.lays283_ren : Go.Shelf.Ren := ⟨fun | 283 => 164 | n => n, fun | 3 => 3 | 9 => 9 | 4 => 4 | n => n, fun | n => n⟩
theorem Tryz.lays283 : Go.Proofs.Lays.n283 Tryz.prog Tryz.lays283_ren := {
  mixed := by kernel_rfl
  f283 := Tryz.func164.trans (congrArg some (by kernel_rfl))
  t3 := Tryz.underlying3
  a3 := Tryz.isAgg3
  z3 := Tryz.sizeOf3
  v3 := Tryz.zeroValue3
  t4 := Tryz.underlying4
  a4 := Tryz.isAgg4
  z4 := Tryz.sizeOf4
  v4 := Tryz.zeroValue4
  t9 := Tryz.underlying9
  a9 := Tryz.isAgg9
  z9 := Tryz.sizeOf9
  v9 := Tryz.zeroValue9 }
end Go.Proofs

namespace Go.Proofs.YtbepgmadijomjaaGreatDoor
set_option linter.unusedVariables false
set_option linter.unusedSimpArgs false
set_option maxRecDepth 100000
section
open Go
def wb (c : Nat) : Bool := (Nat.ble 97 c && Nat.ble c 122) || (Nat.ble 48 c && Nat.ble c 57)
def Zqf : List Nat := [97, 98, 99, 100, 101, 102, 103, 104, 105, 106, 107, 108, 109, 110, 111, 112, 113, 114, 115, 116, 117, 118, 119, 120, 121, 122, 48, 49, 50, 51, 52, 53, 54, 55, 56, 57]
def Zln (s : List Nat) : List Nat := (Lib.trimS (mkS s).data.toList (mkS Zqf).data.toList).map UInt8.toNat
theorem Zt3 (s : List Nat) (hs : s.length ≤ 9223372036854775807) : PureC E 86 [.str false s, .str true Zqf] (.str false (Zln s)) := by
 refine Ve fun g w vals hd => ?_
 obtain ⟨u, v, rfl, hu, hv⟩ := Z7j hd
 cases hu; cases hv
 rename_i b hb c hc
 subst hb
 have hc' : c = mkS Zqf := by rw [← hc, Zas]
 subst hc'
 have hs' : b.size ≤ 9223372036854775807 := by rw [← Zar]; exact hs
 refine (Any.strings_Trim_laid Tryz.lays160 (by kernel_rfl) b (mkS Zqf) w hs' (by decide) (ascii_of_all (by decide))).mono ?_
 rintro e w' ⟨rfl, hw⟩
 refine ⟨_, rfl, ?_, hw⟩
 unfold Zln
 rw [Zas]
 exact Zzv
theorem dw_nil {α : Type} {p : α → Bool} : ∀ {l : List α}, l.dropWhile p = [] ↔ ∀ x ∈ l, p x = true
 | [] => by simp
 | x :: l => by
  rw [List.dropWhile_cons]
  cases hp : p x with
  | true => simp [hp, dw_nil (l := l)]
  | false => simp [hp]
theorem Zt4 {α : Type} {p : α → Bool} : ∀ {l : List α} {b : α} {r : List α}, l.dropWhile p = b :: r → p b = false
 | [], b, r, h => by simp at h
 | x :: l, b, r, h => by
  rw [List.dropWhile_cons] at h
  cases hp : p x with
  | true => rw [hp] at h; exact Zt4 h
  | false => rw [hp] at h; simp at h; rw [← h.1]; exact hp
theorem Zt5 (l cs : List UInt8) : Lib.trimS l cs = [] ↔ ∀ b ∈ l, cs.contains b = true := by
 unfold Lib.trimS Lib.trimLeftS Lib.trimRightS
 rw [dw_nil]
 constructor
 · intro h
   cases hd : l.reverse.dropWhile (cs.contains ·) with
   | nil =>
    rw [dw_nil] at hd
    exact fun b hb => hd b (List.mem_reverse.2 hb)
   | cons b r =>
    exfalso
    have h1 := h b (by rw [hd]; simp)
    have h2 := Zt4 hd
    rw [h1] at h2
    cases h2
 · intro h b hb
   rw [dw_nil.2 (fun b hb => h b (List.mem_reverse.1 hb))] at hb
   simp at hb
theorem Zjq : ∀ n, n < 256 → (mkS Zqf).data.toList.contains (UInt8.ofNat n) = wb n := by decide
theorem Zt6 {s : List Nat} (hs : Byt s) : Zln s = [] ↔ s.all wb = true := by
 unfold Zln
 rw [List.map_eq_nil_iff, Zt5, List.all_eq_true]
 have e : s = (mkS s).data.toList.map UInt8.toNat := (show toL (mkS s) = s from hs).symm
 constructor
 · intro h c hc
   rw [e] at hc
   obtain ⟨b, hb, rfl⟩ := List.mem_map.1 hc
   rw [← Zjq _ b.toNat_lt]
   have := h b hb
   rwa [show UInt8.ofNat b.toNat = b from UInt8.ofNat_toNat]
 · intro h b hb
   have := h b.toNat (by rw [e]; exact List.mem_map_of_mem hb)
   rw [← Zjq _ b.toNat_lt] at this
   rwa [show UInt8.ofNat b.toNat = b from UInt8.ofNat_toNat] at this
noncomputable def Z6l : Sum thy := sumP (dA2 dS (dKs Zqf)) (fun x => x.1.length ≤ 9223372036854775807) fun x => .str false (Zln x.1)
theorem Zyf : SumOk E 86 Z6l := Yh E_ok (Zc (f := 86) rfl) fun x h => Zt3 _ h
noncomputable def Z3d : Fns thy := addS F0 86 Z6l
theorem Zyg : FnsOk E Z3d := Zb F0_ok Zyf
def lowF : List Nat → Bool
 | [] => false
 | c :: _ => Nat.ble 97 c && Nat.ble c 122
def Vc (s : List Nat) : Bool := decide (s.length ≤ 32) && lowF s && s.all wb
theorem Zt7 (s : List Nat) (v : Bool) : Zk E Z3d (vc E Z3d 400) 47 [.str false s] hp0 0 (fun r => ret E (patch hp0 0 r) r.v (.bool false v)) = (
(decide ((↑(List.length s) : Int) ≤ (32 : Int)) = true → ((!s == toL (ByteArray.mk #[])) = true → (0 : Int) ≤ (0 : Int) ∧ (0 : Int) + (1 : Int) ≤ (↑(List.length s) : Int) ∧ ∀ (x : Nat), s[Int.toNat (0 : Int)]? = some x → (decide ((↑x : Int) ≥ (97 : Int)) = true → (0 : Int) ≤ (0 : Int) ∧ (0 : Int) + (1 : Int) ≤ (↑(List.length s) : Int) ∧ ∀ (x : Nat), s[Int.toNat (0 : Int)]? = some x → (decide ((↑x : Int) ≤ (122 : Int)) = true → List.length s ≤ (9223372036854775807 : Nat) ∧ ((Zln s == toL (ByteArray.mk #[])) = true → true = v) ∧ ((Zln s == toL (ByteArray.mk #[])) = false → false = v)) ∧ (decide ((↑x : Int) ≤ (122 : Int)) = false → false = v)) ∧ (decide ((↑x : Int) ≥ (97 : Int)) = false → false = v)) ∧ ((!s == toL (ByteArray.mk #[])) = false → false = v)) ∧ (decide ((↑(List.length s) : Int) ≤ (32 : Int)) = false → false = v)) := by kernel_rfl
theorem Zt8 (s : List Nat) : PureC E 47 [.str false s] (.bool false (Vc s)) := by
 refine Zzt (j := 0) rfl fun hs => Za E_ok (Zg E_ok Zyg 400) ?_
 rw [Zt7]
 simp only [Z8, Z0, X2, X3, X4, beq_iff_eq, bne_iff_ne, beq_eq_false_iff_ne, bne_eq_false_iff_eq, decide_eq_true_eq, decide_eq_false_iff_not, Bool.or_eq_true, Bool.or_eq_false_iff, Bool.not_eq_true', Bool.not_eq_false', Bool.and_eq_true, Bool.and_true, Bool.true_and, Bool.and_eq_false_iff, beq_self_eq_true, Yx, Yn, ne_eq, and_true, true_and, Bool.true_eq_false, Bool.false_eq_true, false_or, or_false, true_implies, imp_self, Int.ofNat_eq_natCast, not_true_eq_false, not_false_eq_true, Decidable.not_not]
 have he : toL (ByteArray.mk #[]) = [] := rfl
 have hz : (0 : Int).toNat = 0 := rfl
 simp only [he, hz, Zt6 hs]
 unfold Vc
 refine And.intro (fun h1 => And.intro (fun h2 => ⟨by omega, ?_, fun c hc => ?_⟩) (fun h2 => ?_)) (fun h1 => ?_)
 · cases s with
   | nil => exact absurd rfl h2
   | cons c r => simp only [List.length_cons]; omega
 · cases s with
   | nil => simp at hc
   | cons c' r =>
    obtain rfl : c' = c := by simpa using hc
    rw [decide_eq_true (show (c' :: r).length ≤ 32 by omega), show lowF (c' :: r) = (Nat.ble 97 c' && Nat.ble c' 122) from rfl]
    refine And.intro (fun h3 => ⟨by omega, by simp only [List.length_cons]; omega, fun c2 hc2 => ?_⟩) (fun h3 => ?_)
    · obtain rfl : c' = c2 := by simpa using hc2
      refine And.intro (fun h4 => ⟨by omega, fun h5 => ?_, fun h5 => ?_⟩) (fun h4 => ?_)
      · rw [h5, Nat.ble_eq_true_of_le (by omega), Nat.ble_eq_true_of_le (by omega)]; rfl
      · rw [Bool.eq_false_iff.2 h5]; simp
      · have : Nat.ble c' 122 = false := by rw [← Bool.not_eq_true, Nat.ble_eq]; omega
        rw [this]; simp
    · have : Nat.ble 97 c' = false := by rw [← Bool.not_eq_true, Nat.ble_eq]; omega
      rw [this]; simp
 · rw [h2]; simp [lowF]
 · rw [decide_eq_false (show ¬ s.length ≤ 32 by omega)]; simp
def resW : List (List Nat) := [[116, 97, 114, 105, 102, 102], [102, 111, 114], [99, 108, 97, 117, 115, 101], [119, 104, 101, 110], [97, 110, 100], [105, 110], [105, 115], [112, 97, 121], [109, 105, 110], [109, 97, 120], [100, 111, 119, 110], [117, 112], [104, 97, 108, 102], [105, 102], [109, 111, 110, 101, 121], [109, 105, 110, 117, 116, 101], [112, 101, 114], [107, 103], [116, 121, 112, 101], [111, 119, 110, 101, 114], [114, 97, 105, 108, 119, 97, 121], [115, 104, 105, 112, 112, 101, 114], [99, 108, 97, 115, 115], [119, 101, 105, 103, 104, 116], [107, 109], [109, 105, 110, 117, 116, 101, 115], [119, 111, 114, 107, 105, 110, 103], [99, 111, 100, 101], [119, 111, 114, 116, 104], [99, 111, 115, 116], [109, 111, 110, 116, 104], [98, 101, 103, 105, 110], [112, 97, 114, 116, 115], [112, 97, 114, 116], [104, 105, 114, 101], [100, 101, 109, 117, 114, 114, 97, 103, 101], [102, 114, 101, 105, 103, 104, 116], [114, 101, 112, 97, 105, 114], [108, 111, 115, 115], [99, 108, 101, 97, 110, 105, 110, 103]]
theorem Zyh (s : List Nat) (K : SV thy → Prop) : Zk E F0 (vc E F0 400) 48 [.str false s] hp0 0 (fun r => K r.v) = X5 false (.str false s) (resW.map fun k => (Value.string (mkS k), SV.bool true true)) K (K (.bool true false)) := by kernel_rfl
theorem Zn7 (s : List Nat) : PureC E 48 [.str false s] (.bool false (decide (s ∈ resW))) := by
 refine Zgr E_ok (Z8y 400) (K := fun r => r.v = .bool true (decide (s ∈ resW))) (fun r hr => by rw [hr]; rfl) ?_
 rw [Zyh s fun v => v = .bool true (decide (s ∈ resW))]
 refine Zgd ?_ (fun h => by rw [decide_eq_true h]) (fun h => by rw [decide_eq_false h])
 unfold Byt; decide
end
section
open Go
def Zwc : Dc E Unit where
 dec v := match v with | .tup [] => some () | _ => none
 enc _ := .tup []
 ok v a h := by
  split at h
  · exact ⟨rfl, rfl, fun _ _ _ h => h⟩
  · cases h
def dTup {α : Type} (r : DcL E α) : Dc E α where
 dec v := match v with | .tup cs => r.dec cs | _ => none
 enc a := .tup (r.enc a)
 ok v a h := by
  split at h
  · obtain ⟨k1, k2, k3⟩ := r.ok _ _ h
    refine ⟨by simpa [nid] using k1, rfl, fun σ g u hd => ?_⟩
    obtain ⟨arr, c, rfl, hs, hc, hd⟩ := Zg7 hd
    refine .tup c (by omega) (fun j hj => hc j (by omega)) fun j sv' hj => ?_
    obtain ⟨sv, h1, h2⟩ := k3 σ g j sv' hj
    exact h2 _ (hd j sv h1)
  · cases h
def dBt : Dc E Bool where
 dec v := match v with | .bool _ b => some b | _ => none
 enc b := .bool true b
 ok v a h := by
  split at h
  · cases h
    exact ⟨rfl, rfl, fun σ g u hd => by cases hd; exact .bool _ _⟩
  · cases h
abbrev PX := List Tok × Int × Unit
noncomputable def Z7q : Dc E (List Tok) := (Zpw (E := E) Th.toks : Dc E (List (thy.dom Th.toks)))
noncomputable def dPX : DcL E PX := dA2 Z7q dN
def Zz7 (e : Int × Int) : Value := .iface 64 (.agg #[.int .i64 e.1, .int .i64 e.2])
def Zo1 : Value → Option (Int × Int)
 | .iface t (.agg a) => (match Nat.beq t 64, a.toList with | true, [.int .i64 x, .int .i64 y] => some (x, y) | _, _ => none)
 | _ => none
theorem Zkl (q : Value) (e : Int × Int) (h : Zo1 q = some e) : Zz7 e = q := by
 unfold Zo1 at h
 split at h
 · rename_i t a
   split at h
   · rename_i x y ht ha
     cases h
     unfold Zz7
     obtain rfl := Nat.eq_of_beq_eq_true ht
     have : a = #[Value.int .i64 x, Value.int .i64 y] := by rw [← Array.toArray_toList (xs := a), ha]
     rw [this]
   · cases h
 · cases h
noncomputable def mI {α β : Type} (dA : DcL E α) (hA : ∀ a, nidL 0 (dA.enc a) = true) (d : Dc E β) (hv : ∀ y, nid 0 (d.enc y) = true) : MutI E PX α β (Int × Int) where
 dS := dPX
 dA := dA
 v := d.enc
 hv := hv
 hS _ := rfl
 hA := hA
 pv := Zz7
abbrev PR (β : Type) := Except (Int × Int) (β × PX)
noncomputable def mK {α β : Type} (dA : DcL E α) (hA : ∀ a, nidL 0 (dA.enc a) = true) (d : Dc E β) (hv : ∀ y, nid 0 (d.enc y) = true) (l : List Tok) (e : Int) (out : PR β) : Res thy → Prop :=
 mutK (mI dA hA d hv) (fun _ => none) 3 d.dec Zo1 (l, e, ()) out
theorem Vr {F : Fns thy} (hF : FnsOk E F) {n : Nat} {α β : Type} {dA : DcL E α} {hA : ∀ a, nidL 0 (dA.enc a) = true} {d : Dc E β} {hv : ∀ y, nid 0 (d.enc y) = true} {f : Nat} {l : List Tok} {e : Int} {a : α} {out : PR β}
 (hk : Zk E F (vc E F n) f (.ptr 0 0 :: dA.enc a) (one [.psl Th.toks l false, .int false .i64 e]) 1 (mK dA hA d hv l e out)) : Wj (mI dA hA d hv) f (l, e, ()) a out :=
 Zmn E_ok (Zg E_ok hF n) (fun v y h => (d.ok v y h).2.2) Zkl (x := (l, e, ())) hk
theorem n1 {α : Type} {d : Dc E α} (h : ∀ y, nid 0 (d.enc y) = true) : ∀ a : α × Unit, nidL 0 ((dA1 d).enc a) = true := fun a => by
 show (nid 0 (d.enc a.1) && true) = true
 rw [h]; rfl
theorem n0 : ∀ a : Unit, nidL 0 ((DcL.nil (E := E)).enc a) = true := fun _ => rfl
def dWK : DcL E WK where
 dec vs := match vs with | [.str true s] => wkOf s | _ => none
 enc k := [.str true k.src]
 ok vs k h := by
  split at h
  · rw [Zh7 h]
    exact ⟨rfl, rfl, fun σ g j sv' hj => ⟨sv', hj, fun _ h => h⟩⟩
  · cases h
theorem Zid : ∀ k, nidL 0 (dWK.enc k) = true := fun _ => rfl
theorem Zy {A B : Prop} : (∃ Q : Bool → Prop, Q true ∧ (Q true → A) ∧ (Q false → B)) ↔ A :=
 ⟨fun ⟨_, h1, h2, _⟩ => h2 h1, fun h => ⟨fun b => b = true, rfl, fun _ => h, fun h => by cases h⟩⟩
theorem Yb {c : Bool} {A B : Prop} : (∃ Q : Bool → Prop, ((c = true → Q true) ∧ (c = false → Q false)) ∧ (Q true → A) ∧ (Q false → B)) ↔ ((c = true → A) ∧ (c = false → B)) := by
 constructor
 · rintro ⟨Q, ⟨h1, h2⟩, h3, h4⟩
   exact ⟨fun h => h3 (h1 h), fun h => h4 (h2 h)⟩
 · rintro ⟨h1, h2⟩
   exact ⟨fun b => c = b, ⟨fun h => h, fun h => h⟩, h1, h2⟩
theorem tz {t : Tok} {l : List Tok} : ((((t :: l).length : Nat) : Int) == 0) = false := by
 rw [beq_eq_false_iff_ne, List.length_cons]; omega
theorem tz0 : (((([] : List Tok).length : Nat) : Int) == 0) = true := rfl
theorem tp {t : Tok} {l : List Tok} : decide ((((t :: l).length : Nat) : Int) > 0) = true := by
 rw [decide_eq_true_eq, List.length_cons]; omega
theorem tp0 : decide (((([] : List Tok).length : Nat) : Int) > 0) = false := rfl
theorem tl1 {t : Tok} {l : List Tok} : ((0 : Int) + 1 ≤ (((t :: l).length : Nat) : Int)) = True := eq_true (by rw [List.length_cons]; omega)
theorem tl2 {t : Tok} {l : List Tok} : ((1 : Int) ≤ (((t :: l).length : Nat) : Int)) = True := eq_true (by rw [List.length_cons]; omega)
theorem tg {t x : Tok} {l : List Tok} : ((t :: l)[Int.toNat 0]? = some x) = (t = x) := by
 rw [eq_iff_iff]; simp
theorem td {t : Tok} {l : List Tok} : List.drop (Int.toNat 1) (t :: l) = l := rfl
theorem i01 : ((0 : Int) ≤ 1) = True := by simp
def hdT (e : Int) : List Tok → Int
 | [] => e
 | t :: _ => t.at_
def isW (s : List Nat) : List Tok → Bool
 | [] => false
 | t :: _ => !(t.kind == 2) && t.text == s
def pAcc (s : List Nat) (l : List Tok) (e : Int) : PR Bool := .ok (isW s l, if isW s l then l.tail else l, e, ())
def Zez (s : List Nat) (l : List Tok) (e : Int) : PR Unit := if isW s l then .ok ((), l.tail, e, ()) else .error (hdT e l, 160)
def pInt : List Tok → Int → PR Int
 | [], e => .error (e, 160)
 | t :: r, e => if t.kind = 2 then .ok (t.n, r, e, ()) else .error (t.at_, 160)
def chz (ws : List (List Nat)) : List Tok → Int
 | [] => -1
 | t :: _ => if t.kind = 1 then idxS t.text 0 ws else -1
def Zo (ws : List (List Nat)) (l : List Tok) (e : Int) : PR (Int × Bool × Unit) := if 0 ≤ chz ws l then .ok ((chz ws l, true, ()), l.tail, e, ()) else .ok ((0, false, ()), l, e, ())
def Yc (ws : List (List Nat)) (l : List Tok) (e : Int) : PR Int := if 0 ≤ chz ws l then .ok (chz ws l, l.tail, e, ()) else .error (hdT e l, 160)
def Vu : List Tok → Int → PR (List Nat)
 | [], e => .error (e, 160)
 | t :: r, e => if t.kind = 1 then (if t.text ∈ resW then .error (t.at_, 161) else .ok (t.text, r, e, ())) else .error (t.at_, 160)
theorem Vv {i : Int} : (decide (i < 0) = true) = ¬ 0 ≤ i := by rw [decide_eq_true_eq]; exact propext (by omega)
theorem Vw {i : Int} : (decide (i < 0) = false) = (0 ≤ i) := by rw [decide_eq_false_iff_not]; exact propext (by omega)
theorem Zmy (l : List Tok) (e : Int) (s : List Nat) (out : PR Bool)  : Zk E F0 (vc E F0 400) 35 [.ptr 0 0, .str false s] (one [.psl Th.toks l false, .int false .i64 e]) 1 (mK (dA1 dS) (n1 fun _ => rfl) dBt (fun _ => rfl) l e out) = (
(((↑(List.length l) : Int) == (0 : Int)) = true → out = Except.ok (false, l, e, ())) ∧ (((↑(List.length l) : Int) == (0 : Int)) = false → (0 : Int) ≤ (0 : Int) ∧ (0 : Int) + (1 : Int) ≤ (↑(List.length l) : Int) ∧ ∀ (x : Tok), l[Int.toNat (0 : Int)]? = some x → ((Tok.kind x == (2 : Int)) = true → out = Except.ok (false, l, e, ())) ∧ ((Tok.kind x == (2 : Int)) = false → (0 : Int) ≤ (0 : Int) ∧ (0 : Int) + (1 : Int) ≤ (↑(List.length l) : Int) ∧ ∀ (x : Tok), l[Int.toNat (0 : Int)]? = some x → ((!Tok.text x == s) = true → out = Except.ok (false, l, e, ())) ∧ ((!Tok.text x == s) = false → ((0 : Int) ≤ (1 : Int) ∧ (1 : Int) ≤ (↑(List.length l) : Int)) ∧ out = Except.ok (true, List.drop (Int.toNat (1 : Int)) l, e, ()))))) := by kernel_rfl
theorem Zkm (l : List Tok) (e : Int) (out : PR Int)  : Zk E F0 (vc E F0 400) 102 [.ptr 0 0] (one [.psl Th.toks l false, .int false .i64 e]) 1 (mK .nil n0 dN (fun _ => rfl) l e out) = (
(((↑(List.length l) : Int) == (0 : Int)) = true → (decide ((↑(List.length l) : Int) > (0 : Int)) = true → (0 : Int) ≤ (0 : Int) ∧ (0 : Int) + (1 : Int) ≤ (↑(List.length l) : Int) ∧ ∀ (x : Tok), l[Int.toNat (0 : Int)]? = some x → out = Except.error (Tok.at_ x, (160 : Int))) ∧ (decide ((↑(List.length l) : Int) > (0 : Int)) = false → out = Except.error (e, (160 : Int)))) ∧ (((↑(List.length l) : Int) == (0 : Int)) = false → (0 : Int) ≤ (0 : Int) ∧ (0 : Int) + (1 : Int) ≤ (↑(List.length l) : Int) ∧ ∀ (x : Tok), l[Int.toNat (0 : Int)]? = some x → ((Tok.kind x != (2 : Int)) = true → (decide ((↑(List.length l) : Int) > (0 : Int)) = true → (0 : Int) ≤ (0 : Int) ∧ (0 : Int) + (1 : Int) ≤ (↑(List.length l) : Int) ∧ ∀ (x : Tok), l[Int.toNat (0 : Int)]? = some x → out = Except.error (Tok.at_ x, (160 : Int))) ∧ (decide ((↑(List.length l) : Int) > (0 : Int)) = false → out = Except.error (e, (160 : Int)))) ∧ ((Tok.kind x != (2 : Int)) = false → (0 : Int) ≤ (0 : Int) ∧ (0 : Int) + (1 : Int) ≤ (↑(List.length l) : Int) ∧ ∀ (x : Tok), l[Int.toNat (0 : Int)]? = some x → ((0 : Int) ≤ (1 : Int) ∧ (1 : Int) ≤ (↑(List.length l) : Int)) ∧ out = Except.ok (Tok.n x, List.drop (Int.toNat (1 : Int)) l, e, ())))) := by kernel_rfl
noncomputable def Fsm : Fns thy := addS (addS (addS F0 42 Zca) 100 Sixs) 48 (Vo (dA1 dS) (fun _ => True) (fun x => decide (x.1 ∈ resW)) fun y => .bool false y)
theorem Zwd : FnsOk E Fsm := Zb (Zb (Zb F0_ok Zcb) Z4b) (Z3 E_ok (Zc (f := 48) rfl) fun x _ => Zn7 x.1)
noncomputable def dIB : Dc E (Int × Bool × Unit) := dTup (dA2 dN dB)
abbrev qBI2 (a0 : List Tok) := (↑(List.length a0) : Int)
abbrev qBI3 := (0 : Int)
abbrev qBI1 (a0 : List Tok) (b0 : PR Unit) := (decide ((qBI2 a0) > qBI3) = true → qBI3 ≤ qBI3 ∧ qBI3 + (1 : Int) ≤ (qBI2 a0) ∧ ∀ (x : Tok), a0[Int.toNat qBI3]? = some x → b0 = Except.error (Tok.at_ x, (160 : Int)))
abbrev qBI4 (a0 : List Tok) (b0 : PR Unit) (c0 : Int) := (decide ((qBI2 a0) > qBI3) = false → b0 = Except.error (c0, (160 : Int)))
theorem Zmz (l : List Tok) (e : Int) (s : List Nat) (out : PR Unit)  : Zk E F0 (vc E F0 400) 31 [.ptr 0 0, .str false s] (one [.psl Th.toks l false, .int false .i64 e]) 1 (mK (dA1 dS) (n1 fun _ => rfl) Zwc (fun _ => rfl) l e out) = (
 (((qBI2 l) == qBI3) = true → (qBI1 l out) ∧ (qBI4 l out e)) ∧ (((qBI2 l) == qBI3) = false → qBI3 ≤ qBI3 ∧ qBI3 + (1 : Int) ≤ (qBI2 l) ∧ ∀ (x : Tok), l[Int.toNat qBI3]? = some x → ((Tok.kind x == (2 : Int)) = true → (qBI1 l out) ∧ (qBI4 l out e)) ∧ ((Tok.kind x == (2 : Int)) = false → qBI3 ≤ qBI3 ∧ qBI3 + (1 : Int) ≤ (qBI2 l) ∧ ∀ (x : Tok), l[Int.toNat qBI3]? = some x → ((!Tok.text x == s) = true → (qBI1 l out) ∧ (qBI4 l out e)) ∧ ((!Tok.text x == s) = false → (qBI3 ≤ (1 : Int) ∧ (1 : Int) ≤ (qBI2 l)) ∧ out = Except.ok ((), List.drop (Int.toNat (1 : Int)) l, e, ()))))) := by kernel_rfl
abbrev qBI6 := (0 : Int)
abbrev qBI5 (a0 : Bool → Prop) (b0 : List Tok) (c0 : PR (Int × Bool × Unit)) (d0 : Int) (e0 : Int) := (a0 false → (qBI6 ≤ (1 : Int) ∧ (1 : Int) ≤ (↑(List.length b0) : Int)) ∧ c0 = Except.ok ((d0, true, ()), List.drop (Int.toNat (1 : Int)) b0, e0, ()))
abbrev qBI7 := (WK.words WK.un)
theorem Zru (l : List Tok) (e : Int) (out : PR (Int × Bool × Unit))  : Zk E Fsm (vc E Fsm 400) 61 [.ptr 0 0, .str true (WK.src .un)] (one [.psl Th.toks l false, .int false .i64 e]) 1 (mK dWK Zid dIB (fun _ => rfl) l e out) = (
 (((↑(List.length l) : Int) == qBI6) = true → List.length qBI7 ≤ (1000000000 : Nat) ∧ ∀ (y : Int), y = idxS [] (0 : Nat) qBI7 → ∃ (Q : Bool → Prop), Q true ∧ (Q true → out = Except.ok ((qBI6, false, ()), l, e, ())) ∧ (qBI5 Q l out y e)) ∧ (((↑(List.length l) : Int) == qBI6) = false → qBI6 ≤ qBI6 ∧ qBI6 + (1 : Int) ≤ (↑(List.length l) : Int) ∧ ∀ (x : Tok), l[Int.toNat qBI6]? = some x → ((Tok.kind x != (1 : Int)) = true → List.length qBI7 ≤ (1000000000 : Nat) ∧ ∀ (y : Int), y = idxS [] (0 : Nat) qBI7 → ∃ (Q : Bool → Prop), Q true ∧ (Q true → out = Except.ok ((qBI6, false, ()), l, e, ())) ∧ (qBI5 Q l out y e)) ∧ ((Tok.kind x != (1 : Int)) = false → qBI6 ≤ qBI6 ∧ qBI6 + (1 : Int) ≤ (↑(List.length l) : Int) ∧ ∀ (x : Tok), l[Int.toNat qBI6]? = some x → List.length qBI7 ≤ (1000000000 : Nat) ∧ ∀ (y : Int), y = idxS (Tok.text x) (0 : Nat) qBI7 → ∃ (Q : Bool → Prop), ((decide (y < qBI6) = true → Q true) ∧ (decide (y < qBI6) = false → Q false)) ∧ (Q true → out = Except.ok ((qBI6, false, ()), l, e, ())) ∧ (qBI5 Q l out y e)))) := by kernel_rfl
abbrev qBI9 := (0 : Int)
abbrev qBI8 (a0 : Bool → Prop) (b0 : List Tok) (c0 : PR (Int × Bool × Unit)) (d0 : Int) (e0 : Int) := (a0 false → (qBI9 ≤ (1 : Int) ∧ (1 : Int) ≤ (↑(List.length b0) : Int)) ∧ c0 = Except.ok ((d0, true, ()), List.drop (Int.toNat (1 : Int)) b0, e0, ()))
abbrev qBIa := (WK.words WK.ca)
theorem Zrv (l : List Tok) (e : Int) (out : PR (Int × Bool × Unit))  : Zk E Fsm (vc E Fsm 400) 61 [.ptr 0 0, .str true (WK.src .ca)] (one [.psl Th.toks l false, .int false .i64 e]) 1 (mK dWK Zid dIB (fun _ => rfl) l e out) = (
 (((↑(List.length l) : Int) == qBI9) = true → List.length qBIa ≤ (1000000000 : Nat) ∧ ∀ (y : Int), y = idxS [] (0 : Nat) qBIa → ∃ (Q : Bool → Prop), Q true ∧ (Q true → out = Except.ok ((qBI9, false, ()), l, e, ())) ∧ (qBI8 Q l out y e)) ∧ (((↑(List.length l) : Int) == qBI9) = false → qBI9 ≤ qBI9 ∧ qBI9 + (1 : Int) ≤ (↑(List.length l) : Int) ∧ ∀ (x : Tok), l[Int.toNat qBI9]? = some x → ((Tok.kind x != (1 : Int)) = true → List.length qBIa ≤ (1000000000 : Nat) ∧ ∀ (y : Int), y = idxS [] (0 : Nat) qBIa → ∃ (Q : Bool → Prop), Q true ∧ (Q true → out = Except.ok ((qBI9, false, ()), l, e, ())) ∧ (qBI8 Q l out y e)) ∧ ((Tok.kind x != (1 : Int)) = false → qBI9 ≤ qBI9 ∧ qBI9 + (1 : Int) ≤ (↑(List.length l) : Int) ∧ ∀ (x : Tok), l[Int.toNat qBI9]? = some x → List.length qBIa ≤ (1000000000 : Nat) ∧ ∀ (y : Int), y = idxS (Tok.text x) (0 : Nat) qBIa → ∃ (Q : Bool → Prop), ((decide (y < qBI9) = true → Q true) ∧ (decide (y < qBI9) = false → Q false)) ∧ (Q true → out = Except.ok ((qBI9, false, ()), l, e, ())) ∧ (qBI8 Q l out y e)))) := by kernel_rfl
abbrev qBId (a0 : List Tok) := (↑(List.length a0) : Int)
abbrev qBIe := (0 : Int)
abbrev qBIb (a0 : Bool → Prop) (b0 : List Tok) (c0 : PR Int) (d0 : Int) := (a0 true → (decide ((qBId b0) > qBIe) = true → qBIe ≤ qBIe ∧ qBIe + (1 : Int) ≤ (qBId b0) ∧ ∀ (x : Tok), b0[Int.toNat qBIe]? = some x → c0 = Except.error (Tok.at_ x, (160 : Int))) ∧ (decide ((qBId b0) > qBIe) = false → c0 = Except.error (d0, (160 : Int))))
abbrev qBIc (a0 : Bool → Prop) (b0 : List Tok) (c0 : PR Int) (d0 : Int) (e0 : Int) := (a0 false → (qBIe ≤ (1 : Int) ∧ (1 : Int) ≤ (qBId b0)) ∧ c0 = Except.ok (d0, List.drop (Int.toNat (1 : Int)) b0, e0, ()))
abbrev qBIf := (WK.words WK.at_)
theorem Zm0 (l : List Tok) (e : Int) (out : PR Int)  : Zk E Fsm (vc E Fsm 400) 33 [.ptr 0 0, .str true (WK.src .at_)] (one [.psl Th.toks l false, .int false .i64 e]) 1 (mK dWK Zid dN (fun _ => rfl) l e out) = (
 (((qBId l) == qBIe) = true → List.length qBIf ≤ (1000000000 : Nat) ∧ ∀ (y : Int), y = idxS [] (0 : Nat) qBIf → ∃ (Q : Bool → Prop), Q true ∧ (qBIb Q l out e) ∧ (qBIc Q l out y e)) ∧ (((qBId l) == qBIe) = false → qBIe ≤ qBIe ∧ qBIe + (1 : Int) ≤ (qBId l) ∧ ∀ (x : Tok), l[Int.toNat qBIe]? = some x → ((Tok.kind x != (1 : Int)) = true → List.length qBIf ≤ (1000000000 : Nat) ∧ ∀ (y : Int), y = idxS [] (0 : Nat) qBIf → ∃ (Q : Bool → Prop), Q true ∧ (qBIb Q l out e) ∧ (qBIc Q l out y e)) ∧ ((Tok.kind x != (1 : Int)) = false → qBIe ≤ qBIe ∧ qBIe + (1 : Int) ≤ (qBId l) ∧ ∀ (x : Tok), l[Int.toNat qBIe]? = some x → List.length qBIf ≤ (1000000000 : Nat) ∧ ∀ (y : Int), y = idxS (Tok.text x) (0 : Nat) qBIf → ∃ (Q : Bool → Prop), ((decide (y < qBIe) = true → Q true) ∧ (decide (y < qBIe) = false → Q false)) ∧ (qBIb Q l out e) ∧ (qBIc Q l out y e)))) := by kernel_rfl
abbrev qBIj := (0 : Int)
abbrev qBIi (a0 : List Tok) := (↑(List.length a0) : Int)
abbrev qBIg (a0 : Bool → Prop) (b0 : List Tok) (c0 : PR Int) (d0 : Int) := (a0 true → (decide ((qBIi b0) > qBIj) = true → qBIj ≤ qBIj ∧ qBIj + (1 : Int) ≤ (qBIi b0) ∧ ∀ (x : Tok), b0[Int.toNat qBIj]? = some x → c0 = Except.error (Tok.at_ x, (160 : Int))) ∧ (decide ((qBIi b0) > qBIj) = false → c0 = Except.error (d0, (160 : Int))))
abbrev qBIh (a0 : Bool → Prop) (b0 : List Tok) (c0 : PR Int) (d0 : Int) (e0 : Int) := (a0 false → (qBIj ≤ (1 : Int) ∧ (1 : Int) ≤ (qBIi b0)) ∧ c0 = Except.ok (d0, List.drop (Int.toNat (1 : Int)) b0, e0, ()))
abbrev qBIk := (WK.words WK.ki)
theorem Zm1 (l : List Tok) (e : Int) (out : PR Int)  : Zk E Fsm (vc E Fsm 400) 33 [.ptr 0 0, .str true (WK.src .ki)] (one [.psl Th.toks l false, .int false .i64 e]) 1 (mK dWK Zid dN (fun _ => rfl) l e out) = (
 (((qBIi l) == qBIj) = true → List.length qBIk ≤ (1000000000 : Nat) ∧ ∀ (y : Int), y = idxS [] (0 : Nat) qBIk → ∃ (Q : Bool → Prop), Q true ∧ (qBIg Q l out e) ∧ (qBIh Q l out y e)) ∧ (((qBIi l) == qBIj) = false → qBIj ≤ qBIj ∧ qBIj + (1 : Int) ≤ (qBIi l) ∧ ∀ (x : Tok), l[Int.toNat qBIj]? = some x → ((Tok.kind x != (1 : Int)) = true → List.length qBIk ≤ (1000000000 : Nat) ∧ ∀ (y : Int), y = idxS [] (0 : Nat) qBIk → ∃ (Q : Bool → Prop), Q true ∧ (qBIg Q l out e) ∧ (qBIh Q l out y e)) ∧ ((Tok.kind x != (1 : Int)) = false → qBIj ≤ qBIj ∧ qBIj + (1 : Int) ≤ (qBIi l) ∧ ∀ (x : Tok), l[Int.toNat qBIj]? = some x → List.length qBIk ≤ (1000000000 : Nat) ∧ ∀ (y : Int), y = idxS (Tok.text x) (0 : Nat) qBIk → ∃ (Q : Bool → Prop), ((decide (y < qBIj) = true → Q true) ∧ (decide (y < qBIj) = false → Q false)) ∧ (qBIg Q l out e) ∧ (qBIh Q l out y e)))) := by kernel_rfl
abbrev qBIo := (0 : Int)
abbrev qBIn (a0 : List Tok) := (↑(List.length a0) : Int)
abbrev qBIl (a0 : Bool → Prop) (b0 : List Tok) (c0 : PR Int) (d0 : Int) := (a0 true → (decide ((qBIn b0) > qBIo) = true → qBIo ≤ qBIo ∧ qBIo + (1 : Int) ≤ (qBIn b0) ∧ ∀ (x : Tok), b0[Int.toNat qBIo]? = some x → c0 = Except.error (Tok.at_ x, (160 : Int))) ∧ (decide ((qBIn b0) > qBIo) = false → c0 = Except.error (d0, (160 : Int))))
abbrev qBIm (a0 : Bool → Prop) (b0 : List Tok) (c0 : PR Int) (d0 : Int) (e0 : Int) := (a0 false → (qBIo ≤ (1 : Int) ∧ (1 : Int) ≤ (qBIn b0)) ∧ c0 = Except.ok (d0, List.drop (Int.toNat (1 : Int)) b0, e0, ()))
abbrev qBIp := (WK.words WK.un)
theorem Zm2 (l : List Tok) (e : Int) (out : PR Int)  : Zk E Fsm (vc E Fsm 400) 33 [.ptr 0 0, .str true (WK.src .un)] (one [.psl Th.toks l false, .int false .i64 e]) 1 (mK dWK Zid dN (fun _ => rfl) l e out) = (
 (((qBIn l) == qBIo) = true → List.length qBIp ≤ (1000000000 : Nat) ∧ ∀ (y : Int), y = idxS [] (0 : Nat) qBIp → ∃ (Q : Bool → Prop), Q true ∧ (qBIl Q l out e) ∧ (qBIm Q l out y e)) ∧ (((qBIn l) == qBIo) = false → qBIo ≤ qBIo ∧ qBIo + (1 : Int) ≤ (qBIn l) ∧ ∀ (x : Tok), l[Int.toNat qBIo]? = some x → ((Tok.kind x != (1 : Int)) = true → List.length qBIp ≤ (1000000000 : Nat) ∧ ∀ (y : Int), y = idxS [] (0 : Nat) qBIp → ∃ (Q : Bool → Prop), Q true ∧ (qBIl Q l out e) ∧ (qBIm Q l out y e)) ∧ ((Tok.kind x != (1 : Int)) = false → qBIo ≤ qBIo ∧ qBIo + (1 : Int) ≤ (qBIn l) ∧ ∀ (x : Tok), l[Int.toNat qBIo]? = some x → List.length qBIp ≤ (1000000000 : Nat) ∧ ∀ (y : Int), y = idxS (Tok.text x) (0 : Nat) qBIp → ∃ (Q : Bool → Prop), ((decide (y < qBIo) = true → Q true) ∧ (decide (y < qBIo) = false → Q false)) ∧ (qBIl Q l out e) ∧ (qBIm Q l out y e)))) := by kernel_rfl
theorem Zwe (l : List Tok) (e : Int) (out : PR (List Nat))  : Zk E Fsm (vc E Fsm 400) 32 [.ptr 0 0] (one [.psl Th.toks l false, .int false .i64 e]) 1 (mK .nil n0 dS (fun _ => rfl) l e out) = (
(((↑(List.length l) : Int) == (0 : Int)) = true → (decide ((↑(List.length l) : Int) > (0 : Int)) = true → (0 : Int) ≤ (0 : Int) ∧ (0 : Int) + (1 : Int) ≤ (↑(List.length l) : Int) ∧ ∀ (x : Tok), l[Int.toNat (0 : Int)]? = some x → out = Except.error (Tok.at_ x, (160 : Int))) ∧ (decide ((↑(List.length l) : Int) > (0 : Int)) = false → out = Except.error (e, (160 : Int)))) ∧ (((↑(List.length l) : Int) == (0 : Int)) = false → (0 : Int) ≤ (0 : Int) ∧ (0 : Int) + (1 : Int) ≤ (↑(List.length l) : Int) ∧ ∀ (x : Tok), l[Int.toNat (0 : Int)]? = some x → ((Tok.kind x != (1 : Int)) = true → (decide ((↑(List.length l) : Int) > (0 : Int)) = true → (0 : Int) ≤ (0 : Int) ∧ (0 : Int) + (1 : Int) ≤ (↑(List.length l) : Int) ∧ ∀ (x : Tok), l[Int.toNat (0 : Int)]? = some x → out = Except.error (Tok.at_ x, (160 : Int))) ∧ (decide ((↑(List.length l) : Int) > (0 : Int)) = false → out = Except.error (e, (160 : Int)))) ∧ ((Tok.kind x != (1 : Int)) = false → (0 : Int) ≤ (0 : Int) ∧ (0 : Int) + (1 : Int) ≤ (↑(List.length l) : Int) ∧ ∀ (x : Tok), l[Int.toNat (0 : Int)]? = some x → True ∧ ∀ (y : Bool), y = decide (Tok.text x ∈ resW) → (y = true → out = Except.error (Tok.at_ x, (161 : Int))) ∧ (y = false → ((0 : Int) ≤ (1 : Int) ∧ (1 : Int) ≤ (↑(List.length l) : Int)) ∧ out = Except.ok (Tok.text x, List.drop (Int.toNat (1 : Int)) l, e, ()))))) := by kernel_rfl
theorem Zgg (l : List Tok) (e : Int) (s : List Nat) : Wj (mI (dA1 dS) (n1 fun _ => rfl) dBt (fun _ => rfl)) 35 (l, e, ()) (s, ()) (pAcc s l e) := by
 refine Vr F0_ok (n := 400) (a := (s, ())) ?_
 rw [show (dA1 dS).enc (s, ()) = [.str false s] from rfl, Zmy]
 cases l with
 | nil => simp only [Zy, Yb, tz, tz0, tp, tp0, tl1, tl2, tg, td, i01, true_and, and_true, forall_eq', forall_eq, Bool.true_eq_false, Bool.false_eq_true, reduceCtorEq, true_implies, false_implies, Int.le_refl, imp_self, bne_iff_ne, ne_eq, bne_eq_false_iff_eq, beq_iff_eq, beq_eq_false_iff_ne, Vv, Vw]; rfl
 | cons t l =>
  simp only [Zy, Yb, tz, tz0, tp, tp0, tl1, tl2, tg, td, i01, true_and, and_true, forall_eq', forall_eq, Bool.true_eq_false, Bool.false_eq_true, reduceCtorEq, true_implies, false_implies, Int.le_refl, imp_self, bne_iff_ne, ne_eq, bne_eq_false_iff_eq, beq_iff_eq, beq_eq_false_iff_ne, Vv, Vw]
  unfold pAcc isW
  refine ⟨fun h => by simp [h], fun h => ⟨fun h2 => ?_, fun h2 => ?_⟩⟩
  · simp at h2; simp [h2]
  · simp at h2; simp [h, h2]
theorem Zrw (l : List Tok) (e : Int) (s : List Nat) : Wj (mI (dA1 dS) (n1 fun _ => rfl) Zwc (fun _ => rfl)) 31 (l, e, ()) (s, ()) (Zez s l e) := by
 refine Vr F0_ok (n := 400) (a := (s, ())) ?_
 rw [show (dA1 dS).enc (s, ()) = [.str false s] from rfl, Zmz]; delta qBI2 qBI3 qBI1 qBI4
 cases l with
 | nil => simp only [Zy, Yb, tz, tz0, tp, tp0, tl1, tl2, tg, td, i01, true_and, and_true, forall_eq', forall_eq, Bool.true_eq_false, Bool.false_eq_true, reduceCtorEq, true_implies, false_implies, Int.le_refl, imp_self, bne_iff_ne, ne_eq, bne_eq_false_iff_eq, beq_iff_eq, beq_eq_false_iff_ne, Vv, Vw]; rfl
 | cons t l =>
  simp only [Zy, Yb, tz, tz0, tp, tp0, tl1, tl2, tg, td, i01, true_and, and_true, forall_eq', forall_eq, Bool.true_eq_false, Bool.false_eq_true, reduceCtorEq, true_implies, false_implies, Int.le_refl, imp_self, bne_iff_ne, ne_eq, bne_eq_false_iff_eq, beq_iff_eq, beq_eq_false_iff_ne, Vv, Vw]
  unfold Zez isW hdT
  refine ⟨fun h => by simp [h], fun h => ⟨fun h2 => ?_, fun h2 => ?_⟩⟩
  · simp at h2; simp [h2]
  · simp at h2; simp [h, h2]
theorem Zm3 (l : List Tok) (e : Int) : Wj (mI .nil n0 dN (fun _ => rfl)) 102 (l, e, ()) () (pInt l e) := by
 refine Vr F0_ok (n := 400) (a := ()) ?_
 rw [show (DcL.nil (E := E)).enc () = [] from rfl, Zkm]
 cases l with
 | nil => simp only [Zy, Yb, tz, tz0, tp, tp0, tl1, tl2, tg, td, i01, true_and, and_true, forall_eq', forall_eq, Bool.true_eq_false, Bool.false_eq_true, reduceCtorEq, true_implies, false_implies, Int.le_refl, imp_self, bne_iff_ne, ne_eq, bne_eq_false_iff_eq, beq_iff_eq, beq_eq_false_iff_ne, Vv, Vw]; rfl
 | cons t l =>
  simp only [Zy, Yb, tz, tz0, tp, tp0, tl1, tl2, tg, td, i01, true_and, and_true, forall_eq', forall_eq, Bool.true_eq_false, Bool.false_eq_true, reduceCtorEq, true_implies, false_implies, Int.le_refl, imp_self, bne_iff_ne, ne_eq, bne_eq_false_iff_eq, beq_iff_eq, beq_eq_false_iff_ne, Vv, Vw]
  unfold pInt
  exact ⟨fun h => by simp [h], fun h => by simp [h]⟩
theorem Zz8 (l : List Tok) (e : Int) : Wj (mI .nil n0 dS (fun _ => rfl)) 32 (l, e, ()) () (Vu l e) := by
 refine Vr Zwd (n := 400) (a := ()) ?_
 rw [show (DcL.nil (E := E)).enc () = [] from rfl, Zwe]
 cases l with
 | nil => simp only [Zy, Yb, tz, tz0, tp, tp0, tl1, tl2, tg, td, i01, true_and, and_true, forall_eq', forall_eq, Bool.true_eq_false, Bool.false_eq_true, reduceCtorEq, true_implies, false_implies, Int.le_refl, imp_self, bne_iff_ne, ne_eq, bne_eq_false_iff_eq, beq_iff_eq, beq_eq_false_iff_ne, Vv, Vw]; rfl
 | cons t l =>
  simp only [Zy, Yb, tz, tz0, tp, tp0, tl1, tl2, tg, td, i01, true_and, and_true, forall_eq', forall_eq, Bool.true_eq_false, Bool.false_eq_true, reduceCtorEq, true_implies, false_implies, Int.le_refl, imp_self, bne_iff_ne, ne_eq, bne_eq_false_iff_eq, beq_iff_eq, beq_eq_false_iff_ne, Vv, Vw]
  unfold Vu
  refine ⟨fun h => by simp [h], fun h => ⟨fun h2 => ?_, fun h2 => ?_⟩⟩
  · simp at h2; simp [h, h2]
  · simp at h2; simp [h, h2]
theorem Zrx (k : WK) (hk : k = .un ∨ k = .ca) (l : List Tok) (e : Int) : Wj (mI dWK Zid dIB (fun _ => rfl)) 61 (l, e, ()) k (Zo k.words l e) := by
 refine Vr Zwd (n := 400) (a := k) ?_
 rcases hk with rfl | rfl
 · rw [show dWK.enc .un = [.str true (WK.src .un)] from rfl, Zru]; delta qBI6 qBI5 qBI7
   cases l with
   | nil =>
    simp only [Zy, Yb, tz, tz0, tp, tp0, tl1, tl2, tg, td, i01, true_and, and_true, forall_eq', forall_eq, Bool.true_eq_false, Bool.false_eq_true, reduceCtorEq, true_implies, false_implies, Int.le_refl, imp_self, bne_iff_ne, ne_eq, bne_eq_false_iff_eq, beq_iff_eq, beq_eq_false_iff_ne]
    try simp only [Vv, Vw]
    exact ⟨by decide, rfl⟩
   | cons t l =>
    simp only [Zy, Yb, tz, tz0, tp, tp0, tl1, tl2, tg, td, i01, true_and, and_true, forall_eq', forall_eq, Bool.true_eq_false, Bool.false_eq_true, reduceCtorEq, true_implies, false_implies, Int.le_refl, imp_self, bne_iff_ne, ne_eq, bne_eq_false_iff_eq, beq_iff_eq, beq_eq_false_iff_ne]
    try simp only [Vv, Vw]
    unfold Zo chz
    refine ⟨fun h => ⟨by decide, by simp [h]⟩, fun h => ⟨by decide, fun h2 => ?_, fun h2 => ?_⟩⟩
    · simp [h, h2]
    · simp [h, h2]
 · rw [show dWK.enc .ca = [.str true (WK.src .ca)] from rfl, Zrv]; delta qBI9 qBI8 qBIa
   cases l with
   | nil =>
    simp only [Zy, Yb, tz, tz0, tp, tp0, tl1, tl2, tg, td, i01, true_and, and_true, forall_eq', forall_eq, Bool.true_eq_false, Bool.false_eq_true, reduceCtorEq, true_implies, false_implies, Int.le_refl, imp_self, bne_iff_ne, ne_eq, bne_eq_false_iff_eq, beq_iff_eq, beq_eq_false_iff_ne]
    try simp only [Vv, Vw]
    exact ⟨by decide, rfl⟩
   | cons t l =>
    simp only [Zy, Yb, tz, tz0, tp, tp0, tl1, tl2, tg, td, i01, true_and, and_true, forall_eq', forall_eq, Bool.true_eq_false, Bool.false_eq_true, reduceCtorEq, true_implies, false_implies, Int.le_refl, imp_self, bne_iff_ne, ne_eq, bne_eq_false_iff_eq, beq_iff_eq, beq_eq_false_iff_ne]
    try simp only [Vv, Vw]
    unfold Zo chz
    refine ⟨fun h => ⟨by decide, by simp [h]⟩, fun h => ⟨by decide, fun h2 => ?_, fun h2 => ?_⟩⟩
    · simp [h, h2]
    · simp [h, h2]
theorem Zz9 (k : WK) (hk : k = .at_ ∨ k = .ki ∨ k = .un) (l : List Tok) (e : Int) : Wj (mI dWK Zid dN (fun _ => rfl)) 33 (l, e, ()) k (Yc k.words l e) := by
 refine Vr Zwd (n := 400) (a := k) ?_
 rcases hk with rfl | rfl | rfl
 · rw [show dWK.enc .at_ = [.str true (WK.src .at_)] from rfl, Zm0]; delta qBId qBIe qBIb qBIc qBIf
   cases l with
   | nil =>
    simp only [Zy, Yb, tz, tz0, tp, tp0, tl1, tl2, tg, td, i01, true_and, and_true, forall_eq', forall_eq, Bool.true_eq_false, Bool.false_eq_true, reduceCtorEq, true_implies, false_implies, Int.le_refl, imp_self, bne_iff_ne, ne_eq, bne_eq_false_iff_eq, beq_iff_eq, beq_eq_false_iff_ne]
    try simp only [Vv, Vw]
    exact ⟨by decide, rfl⟩
   | cons t l =>
    simp only [Zy, Yb, tz, tz0, tp, tp0, tl1, tl2, tg, td, i01, true_and, and_true, forall_eq', forall_eq, Bool.true_eq_false, Bool.false_eq_true, reduceCtorEq, true_implies, false_implies, Int.le_refl, imp_self, bne_iff_ne, ne_eq, bne_eq_false_iff_eq, beq_iff_eq, beq_eq_false_iff_ne]
    try simp only [Vv, Vw]
    unfold Yc chz hdT
    refine ⟨fun h => ⟨by decide, by simp [h]⟩, fun h => ⟨by decide, fun h2 => ?_, fun h2 => ?_⟩⟩
    · simp [h, h2]
    · simp [h, h2]
 · rw [show dWK.enc .ki = [.str true (WK.src .ki)] from rfl, Zm1]; delta qBIj qBIi qBIg qBIh qBIk
   cases l with
   | nil =>
    simp only [Zy, Yb, tz, tz0, tp, tp0, tl1, tl2, tg, td, i01, true_and, and_true, forall_eq', forall_eq, Bool.true_eq_false, Bool.false_eq_true, reduceCtorEq, true_implies, false_implies, Int.le_refl, imp_self, bne_iff_ne, ne_eq, bne_eq_false_iff_eq, beq_iff_eq, beq_eq_false_iff_ne]
    try simp only [Vv, Vw]
    exact ⟨by decide, rfl⟩
   | cons t l =>
    simp only [Zy, Yb, tz, tz0, tp, tp0, tl1, tl2, tg, td, i01, true_and, and_true, forall_eq', forall_eq, Bool.true_eq_false, Bool.false_eq_true, reduceCtorEq, true_implies, false_implies, Int.le_refl, imp_self, bne_iff_ne, ne_eq, bne_eq_false_iff_eq, beq_iff_eq, beq_eq_false_iff_ne]
    try simp only [Vv, Vw]
    unfold Yc chz hdT
    refine ⟨fun h => ⟨by decide, by simp [h]⟩, fun h => ⟨by decide, fun h2 => ?_, fun h2 => ?_⟩⟩
    · simp [h, h2]
    · simp [h, h2]
 · rw [show dWK.enc .un = [.str true (WK.src .un)] from rfl, Zm2]; delta qBIo qBIn qBIl qBIm qBIp
   cases l with
   | nil =>
    simp only [Zy, Yb, tz, tz0, tp, tp0, tl1, tl2, tg, td, i01, true_and, and_true, forall_eq', forall_eq, Bool.true_eq_false, Bool.false_eq_true, reduceCtorEq, true_implies, false_implies, Int.le_refl, imp_self, bne_iff_ne, ne_eq, bne_eq_false_iff_eq, beq_iff_eq, beq_eq_false_iff_ne]
    try simp only [Vv, Vw]
    exact ⟨by decide, rfl⟩
   | cons t l =>
    simp only [Zy, Yb, tz, tz0, tp, tp0, tl1, tl2, tg, td, i01, true_and, and_true, forall_eq', forall_eq, Bool.true_eq_false, Bool.false_eq_true, reduceCtorEq, true_implies, false_implies, Int.le_refl, imp_self, bne_iff_ne, ne_eq, bne_eq_false_iff_eq, beq_iff_eq, beq_eq_false_iff_ne]
    try simp only [Vv, Vw]
    unfold Yc chz hdT
    refine ⟨fun h => ⟨by decide, by simp [h]⟩, fun h => ⟨by decide, fun h2 => ?_, fun h2 => ?_⟩⟩
    · simp [h, h2]
    · simp [h, h2]
end
section
open Go
noncomputable def Z4x : Sum thy := fun args h _ k =>
 match args with
 | [.ptr b 0, .str _ s] =>
  (match h b with
  | some (.raw cs 0 _) => (match dPX.dec cs with
   | some x => (isW s x.1 = true → k (Zgf b (.bool true true) (dPX.enc (x.1.tail, x.2)))) ∧ (isW s x.1 = false → k (Zgf b (.bool true false) (dPX.enc x)))
   | none => False)
  | _ => False)
 | _ => False
noncomputable def Sexp : Sum thy := fun args h _ k =>
 match args with
 | [.ptr b 0, .str _ s] =>
  (match h b with
  | some (.raw cs 0 _) => (match dPX.dec cs with
   | some x => (isW s x.1 = true → k (Zgf b (.tup []) (dPX.enc (x.1.tail, x.2)))) ∧ (isW s x.1 = false → k (Zv0 b (Zz7 (hdT x.2.1 x.1, 160))))
   | none => False)
  | _ => False)
 | _ => False
theorem SaccB_ok : SumOk E 35 Z4x := by
 refine ⟨Zc rfl, fun args h i k hD hk => ?_⟩
 unfold Z4x at hk
 split at hk
 case h_2 => exact hk.elim
 rename_i b f s
 split at hk
 case h_2 => exact hk.elim
 rename_i cs tg hb
 split at hk
 case h_2 => exact hk.elim
 rename_i x hx
 obtain ⟨l, e, _⟩ := x
 refine (Xg E_ok (Zc rfl) (M := mI (dA1 dS) (n1 fun _ => rfl) dBt (fun _ => rfl)) (pre := fun _ _ => True) (fn := fun x a => pAcc a.1 x.1 x.2.1) fun x a _ => Zgg x.1 x.2.1 a.1).ok [.ptr b 0, .str f s] h i k hD ?_
 simp only [sumM, hb]
 rw [show (mI (dA1 dS) (n1 fun _ => rfl) dBt (fun _ => rfl)).dS.dec cs = some (l, e, ()) from hx, show (mI (dA1 dS) (n1 fun _ => rfl) dBt (fun _ => rfl)).dA.dec [.str f s] = some (s, ()) from rfl]
 refine ⟨trivial, fun y x' he => ?_, fun e he => by cases he⟩
 unfold pAcc at he
 injection he with he
 injection he with e1 e2
 subst e1; subst e2
 cases hw : isW s l with
 | true => exact hk.1 hw
 | false => exact hk.2 hw
theorem Z4y : SumOk E 31 Sexp := by
 refine ⟨Zc rfl, fun args h i k hD hk => ?_⟩
 unfold Sexp at hk
 split at hk
 case h_2 => exact hk.elim
 rename_i b f s
 split at hk
 case h_2 => exact hk.elim
 rename_i cs tg hb
 split at hk
 case h_2 => exact hk.elim
 rename_i x hx
 obtain ⟨l, e, _⟩ := x
 refine (Xg E_ok (Zc rfl) (M := mI (dA1 dS) (n1 fun _ => rfl) Zwc (fun _ => rfl)) (pre := fun _ _ => True) (fn := fun x a => Zez a.1 x.1 x.2.1) fun x a _ => Zrw x.1 x.2.1 a.1).ok [.ptr b 0, .str f s] h i k hD ?_
 simp only [sumM, hb]
 rw [show (mI (dA1 dS) (n1 fun _ => rfl) Zwc (fun _ => rfl)).dS.dec cs = some (l, e, ()) from hx, show (mI (dA1 dS) (n1 fun _ => rfl) Zwc (fun _ => rfl)).dA.dec [.str f s] = some (s, ()) from rfl]
 refine ⟨trivial, fun y x' he => ?_, fun e he => ?_⟩
 · unfold Zez at he
   split at he
   · rename_i hw
     injection he with he
     injection he with e1 e2
     subst e1; subst e2
     exact hk.1 hw
   · cases he
 · unfold Zez at he
   split at he
   · cases he
   · rename_i hw
     injection he with he
     subst he
     exact hk.2 (by simpa using hw)
def Ze9 : List Nat := [119, 104, 101, 110]
def sAnd : List Nat := [97, 110, 100]
theorem Zww {f : FuncId} {cs rest cs' : List (SV thy)} {v v' : SV thy} (h : MutC E f cs rest v cs') (hv : ∀ σ g u, Den E σ g v u → Den E σ g v' u) : MutC E f cs rest v' cs' := fun B σ g w vals hh a b c d e =>
 (h B σ g w vals hh a b c d e).mono fun en w' ⟨u, he, σ', g', s, i, dd⟩ => ⟨u, he, σ', g', s, i, hv _ _ _ dd⟩
theorem Zm6 (l : List Tok) (e : Int) (s : List Nat) : Wj (mI (dA1 dS) (n1 fun _ => rfl) dB (fun _ => rfl)) 35 (l, e, ()) (s, ()) (pAcc s l e) :=
 Zww (Zgg l e s) fun σ g u hd => by cases hd; exact .bool _ _
noncomputable def Sacc : Sum thy := fun args h i k =>
 match args with
 | [.ptr b 0, .str f s] =>
  (match eqL s Ze9 || eqL s sAnd with
  | true => sumM (mI (dA1 dS) (n1 fun _ => rfl) dB (fun _ => rfl)) (fun _ _ => True) (fun x a => pAcc a.1 x.1 x.2.1) [.ptr b 0, .str f s] h i k
  | false => Z4x [.ptr b 0, .str f s] h i k)
 | _ => False
theorem Z4z : SumOk E 35 Sacc := by
 refine ⟨Zc rfl, fun args h i k hD hk => ?_⟩
 unfold Sacc at hk
 split at hk
 · split at hk
   · exact (Xg E_ok (Zc rfl) fun x a _ => Zm6 x.1 x.2.1 a.1).ok _ h i k hD hk
   · exact SaccB_ok.ok _ h i k hD hk
 · exact hk.elim
def Z40 (l : List Tok) (e : Int) : PR Int := .ok (hdT e l, l, e, ())
theorem Zwx (l : List Tok) (e : Int) (out : PR Int)  : Zk E F0 (vc E F0 400) 34 [.ptr 0 0] (one [.psl Th.toks l false, .int false .i64 e]) 1 (mK .nil n0 dN (fun _ => rfl) l e out) = (
(decide ((↑(List.length l) : Int) > (0 : Int)) = true → (0 : Int) ≤ (0 : Int) ∧ (0 : Int) + (1 : Int) ≤ (↑(List.length l) : Int) ∧ ∀ (x : Tok), l[Int.toNat (0 : Int)]? = some x → out = Except.ok (Tok.at_ x, l, e, ())) ∧ (decide ((↑(List.length l) : Int) > (0 : Int)) = false → out = Except.ok (e, l, e, ()))) := by kernel_rfl
theorem Z0l (l : List Tok) (e : Int) : Wj (mI .nil n0 dN (fun _ => rfl)) 34 (l, e, ()) () (Z40 l e) := by
 refine Vr F0_ok (n := 400) (a := ()) ?_
 rw [show (DcL.nil (E := E)).enc () = [] from rfl, Zwx]
 cases l with
 | nil => exact ⟨fun h => absurd h (by decide), fun _ => rfl⟩
 | cons t l => exact ⟨fun _ => ⟨Int.le_refl 0, by rw [List.length_cons]; omega, fun x hx => by rw [tg] at hx; subst hx; rfl⟩, fun h => by rw [tp] at h; cases h⟩
noncomputable def Z0m : Sum thy := fun args h _ k =>
 match args with
 | [.ptr b 0] =>
  (match h b with
  | some (.raw cs 0 _) => (match dPX.dec cs with
   | some x => ∀ y, y = hdT x.2.1 x.1 → k (Zgf b (.int false .i64 y) (dPX.enc x))
   | none => False)
  | _ => False)
 | _ => False
theorem Zph : SumOk E 34 Z0m := by
 refine ⟨Zc rfl, fun args h i k hD hk => ?_⟩
 unfold Z0m at hk
 split at hk
 case h_2 => exact hk.elim
 rename_i b
 split at hk
 case h_2 => exact hk.elim
 rename_i cs tg hb
 split at hk
 case h_2 => exact hk.elim
 rename_i x hx
 obtain ⟨l, e, _⟩ := x
 refine (Xg E_ok (Zc rfl) (M := mI .nil n0 dN (fun _ => rfl)) (pre := fun _ _ => True) (fn := fun x a => Z40 x.1 x.2.1) fun x a _ => Z0l x.1 x.2.1).ok [.ptr b 0] h i k hD ?_
 simp only [sumM, hb]
 rw [show (mI .nil n0 dN (fun _ => rfl)).dS.dec cs = some (l, e, ()) from hx, show (mI .nil n0 dN (fun _ => rfl)).dA.dec [] = some () from rfl]
 refine ⟨trivial, fun y x' he => ?_, fun e he => by cases he⟩
 unfold Z40 at he
 injection he with he
 injection he with e1 e2
 subst e1; subst e2
 exact hk _ rfl
noncomputable def Scho : Sum thy := sumM (mI dWK Zid dIB (fun _ => rfl)) (fun _ k => k = .un ∨ k = .ca) fun x k => Zo k.words x.1 x.2.1
theorem Z41 : SumOk E 61 Scho := Xg E_ok (Zc rfl) fun x k h => Zrx k h x.1 x.2.1
noncomputable def Z72 : Sum thy := sumM (mI dWK Zid dN (fun _ => rfl)) (fun _ k => k = .at_ ∨ k = .ki ∨ k = .un) fun x k => Yc k.words x.1 x.2.1
theorem Z0n : SumOk E 33 Z72 := Xg E_ok (Zc rfl) fun x k h => Zz9 k h x.1 x.2.1
noncomputable def Sint : Sum thy := sumM (mI .nil n0 dN (fun _ => rfl)) (fun _ _ => True) fun x _ => pInt x.1 x.2.1
theorem Z42 : SumOk E 102 Sint := Xg E_ok (Zc rfl) fun x _ _ => Zm3 x.1 x.2.1
noncomputable def Z73 : Sum thy := sumM (mI .nil n0 dS (fun _ => rfl)) (fun _ _ => True) fun x _ => Vu x.1 x.2.1
theorem Z0o : SumOk E 32 Z73 := Xg E_ok (Zc rfl) fun x _ _ => Zz8 x.1 x.2.1
noncomputable def Fme : Fns thy := addS (addS (addS (addS (addS (addS F0 35 Sacc) 31 Sexp) 61 Scho) 33 Z72) 102 Sint) 32 Z73
theorem Zfa : FnsOk E Fme := Zb (Zb (Zb (Zb (Zb (Zb F0_ok Z4z) Z4y) Z41) Z0n) Z42) Z0o
theorem Zwy {s : List Nat} : ∀ {l : List (List Nat)} {k : Nat}, idxS s k l < k + l.length
 | [], k => by unfold idxS; simp; omega
 | x :: l, k => by
  unfold idxS
  split
  · simp; omega
  · have := Zwy (s := s) (l := l) (k := k + 1)
    simp at this ⊢; omega
theorem Zpi {ws : List (List Nat)} {l : List Tok} (h : 0 < ws.length) : chz ws l < ws.length := by
 unfold chz
 split
 · omega
 · split
   · rename_i t r _
     have := Zwy (s := t.text) (l := ws) (k := 0)
     simpa using this
   · omega
theorem Y5 {ws : List (List Nat)} {l : List Tok} {e : Int} {y : Int × Bool × Unit} {x' : PX} (h : Zo ws l e = .ok (y, x')) : (0 ≤ chz ws l ∧ y = (chz ws l, true, ()) ∧ x' = (l.tail, e, ())) ∨ (¬ 0 ≤ chz ws l ∧ y = (0, false, ()) ∧ x' = (l, e, ())) := by
 unfold Zo at h
 split at h
 · injection h with h
   injection h with h1 h2
   exact .inl ⟨by assumption, h1.symm, h2.symm⟩
 · injection h with h
   injection h with h1 h2
   exact .inr ⟨by assumption, h1.symm, h2.symm⟩
theorem Zm7 {ws : List (List Nat)} {l : List Tok} {e : Int} {er : Int × Int} (h : Zo ws l e = .error er) : False := by
 unfold Zo at h
 split at h <;> cases h
theorem U3 {ws : List (List Nat)} {l : List Tok} {e : Int} {y : Int} {x' : PX} (h : Yc ws l e = .ok (y, x')) : 0 ≤ chz ws l ∧ y = chz ws l ∧ x' = (l.tail, e, ()) := by
 unfold Yc at h
 split at h
 · injection h with h
   injection h with h1 h2
   exact ⟨by assumption, h1.symm, h2.symm⟩
 · cases h
def incD (d : List Int) (i : Int) : List Int := d.set i.toNat (d.getD i.toNat 0 + 1)
def decD (d : List Int) (i : Int) : List Int := d.set i.toNat (d.getD i.toNat 0 - 1)
def sPer : List Nat := [112, 101, 114]
def Xh (l : List Tok) (e : Int) : PR (List Int) :=
 match Zo WK.un.words l e with
 | .error er => .error er
 | .ok (y, x) =>
  if isW sPer x.1 then
   match Yc WK.un.words x.1.tail x.2.1 with
   | .error er => .error er
   | .ok (j, x1) => .ok (decD (if y.2.1 then incD [0, 0, 0, 0] y.1 else [0, 0, 0, 0]) j, x1)
  else .ok (if y.2.1 then incD [0, 0, 0, 0] y.1 else [0, 0, 0, 0], x)
def sIs : List Nat := [105, 115]
def sIn : List Nat := [105, 110]
def Zbw : List Nat := [46, 46]
def Wl (n : Int) (l : List Tok) (e : Int) : PR Tst :=
 match Yc WK.at_.words l e with
 | .error er => .error er
 | .ok (a, x) =>
  if n = 8 then .error (hdT e l, 2)
  else if isW sIs x.1 then
   match pInt x.1.tail x.2.1 with
   | .error er => .error er
   | .ok (m, x1) => .ok (⟨a, m, m⟩, x1)
  else if isW sIn x.1 then
   match pInt x.1.tail x.2.1 with
   | .error er => .error er
   | .ok (m, x1) =>
    if isW Zbw x1.1 then
     match pInt x1.1.tail x1.2.1 with
     | .error er => .error er
     | .ok (k, x2) => .ok (⟨a, m, k⟩, x2)
    else .error (hdT x1.2.1 x1.1, 160)
  else .error (hdT x.2.1 x.1, 160)
noncomputable def dDm : Dc E (List Int) := dR .dims
noncomputable def dTs : Dc E Tst := dR .tests
abbrev qBJ3 := (0 : Int)
abbrev qBJ1 (a0 : Int × Bool × Unit) (b0 : Int) := (List.set [qBJ3, qBJ3, qBJ3, qBJ3] (Int.toNat (Prod.fst a0)) (wr IntKind.i64 (b0 + (1 : Int))))
abbrev qBJ2 (a0 : Int) (b0 : Int) := (List.set [qBJ3, qBJ3, qBJ3, qBJ3] (Int.toNat a0) (wr IntKind.i64 (b0 - (1 : Int))))
abbrev qBJ4 (a0 : Int × Bool × Unit) (b0 : Int) (c0 : Int) (d0 : Int) := (List.set (qBJ1 a0 b0) (Int.toNat c0) (wr IntKind.i64 (d0 - (1 : Int))))
abbrev qBJ5 := (4 : Nat)
abbrev qBJ6 (a0 : Int) := (qBJ3 ≤ a0 ∧ a0 + (1 : Int) ≤ (↑qBJ5 : Int))
abbrev qBJ7 := (WK.words WK.un)
abbrev qBJ8 := (WK.un = WK.at_ ∨ WK.un = WK.ki ∨ WK.un = WK.un)
theorem Zwz (l : List Tok) (e : Int) (out : PR (List Int))  : Zk E Fme (vc E Fme 400) 142 [.ptr 0 0] (one [.psl Th.toks l false, .int false .i64 e]) 1 (mK .nil n0 dDm (fun _ => rfl) l e out) = (
 (WK.un = WK.un ∨ WK.un = WK.ca) ∧ (∀ (y : Int × Bool × Unit) (x' : PX), Zo qBJ7 l e = Except.ok (y, x') → (Prod.fst (Prod.snd y) = true → (qBJ3 ≤ Prod.fst y ∧ Prod.fst y + (1 : Int) ≤ (↑qBJ5 : Int)) ∧ Int.toNat (Prod.fst y) + (1 : Nat) ≤ qBJ5 ∧ ∀ (x : Int), [qBJ3, qBJ3, qBJ3, qBJ3][Int.toNat (Prod.fst y)]? = some x → (qBJ3 ≤ Prod.fst y ∧ Prod.fst y + (1 : Int) ≤ (↑qBJ5 : Int)) ∧ (0 : Nat) ≤ Int.toNat (Prod.fst y) ∧ Int.toNat (Prod.fst y) + (1 : Nat) ≤ qBJ5 ∧ ∀ (x_1 : Int), [qBJ3, qBJ3, qBJ3, qBJ3][Int.toNat (Prod.fst y)]? = some x_1 → (isW [(112 : Nat), (101 : Nat), (114 : Nat)] (Prod.fst x') = true → qBJ8 ∧ (∀ (y_1 : Int) (x'_1 : PX), Yc qBJ7 (List.tail (Prod.fst x')) (Prod.fst (Prod.snd x')) = Except.ok (y_1, x'_1) → (qBJ6 y_1) ∧ Int.toNat y_1 + (1 : Nat) ≤ List.length (qBJ1 y x) ∧ ∀ (x_2 : Int), (qBJ1 y x)[Int.toNat y_1]? = some x_2 → (qBJ6 y_1) ∧ (0 : Nat) ≤ Int.toNat y_1 ∧ Int.toNat y_1 + (1 : Nat) ≤ List.length (qBJ1 y x) ∧ ∀ (x_3 : Int), (qBJ1 y x)[Int.toNat y_1]? = some x_3 → List.length (qBJ4 y x y_1 x_2) = qBJ5 ∧ List.length (qBJ4 y x y_1 x_2) = qBJ5 ∧ qBJ5 = qBJ5 ∧ out = Except.ok ([List.getD (qBJ4 y x y_1 x_2) (0 : Nat) qBJ3, List.getD (qBJ4 y x y_1 x_2) (1 : Nat) qBJ3, List.getD (qBJ4 y x y_1 x_2) (2 : Nat) qBJ3, List.getD (qBJ4 y x y_1 x_2) (3 : Nat) qBJ3], Prod.fst x'_1, Prod.fst (Prod.snd x'_1), ())) ∧ ∀ (e : Int × Int), Yc qBJ7 (List.tail (Prod.fst x')) (Prod.fst (Prod.snd x')) = Except.error e → out = Except.error e) ∧ (isW [(112 : Nat), (101 : Nat), (114 : Nat)] (Prod.fst x') = false → List.length (qBJ1 y x) = qBJ5 ∧ List.length (qBJ1 y x) = qBJ5 ∧ qBJ5 = qBJ5 ∧ out = Except.ok ([List.getD (qBJ1 y x) (0 : Nat) qBJ3, List.getD (qBJ1 y x) (1 : Nat) qBJ3, List.getD (qBJ1 y x) (2 : Nat) qBJ3, List.getD (qBJ1 y x) (3 : Nat) qBJ3], Prod.fst x', Prod.fst (Prod.snd x'), ()))) ∧ (Prod.fst (Prod.snd y) = false → (isW [(112 : Nat), (101 : Nat), (114 : Nat)] (Prod.fst x') = true → qBJ8 ∧ (∀ (y : Int) (x'_1 : PX), Yc qBJ7 (List.tail (Prod.fst x')) (Prod.fst (Prod.snd x')) = Except.ok (y, x'_1) → (qBJ6 y) ∧ Int.toNat y + (1 : Nat) ≤ qBJ5 ∧ ∀ (x : Int), [qBJ3, qBJ3, qBJ3, qBJ3][Int.toNat y]? = some x → (qBJ6 y) ∧ (0 : Nat) ≤ Int.toNat y ∧ Int.toNat y + (1 : Nat) ≤ qBJ5 ∧ ∀ (x_1 : Int), [qBJ3, qBJ3, qBJ3, qBJ3][Int.toNat y]? = some x_1 → List.length (qBJ2 y x) = qBJ5 ∧ List.length (qBJ2 y x) = qBJ5 ∧ qBJ5 = qBJ5 ∧ out = Except.ok ([List.getD (qBJ2 y x) (0 : Nat) qBJ3, List.getD (qBJ2 y x) (1 : Nat) qBJ3, List.getD (qBJ2 y x) (2 : Nat) qBJ3, List.getD (qBJ2 y x) (3 : Nat) qBJ3], Prod.fst x'_1, Prod.fst (Prod.snd x'_1), ())) ∧ ∀ (e : Int × Int), Yc qBJ7 (List.tail (Prod.fst x')) (Prod.fst (Prod.snd x')) = Except.error e → out = Except.error e) ∧ (isW [(112 : Nat), (101 : Nat), (114 : Nat)] (Prod.fst x') = false → qBJ5 = qBJ5 ∧ qBJ5 = qBJ5 ∧ qBJ5 = qBJ5 ∧ out = Except.ok ([qBJ3, qBJ3, qBJ3, qBJ3], Prod.fst x', Prod.fst (Prod.snd x'), ())))) ∧ ∀ (e_1 : Int × Int), Zo qBJ7 l e = Except.error e_1 → out = Except.error e_1) := by kernel_rfl
abbrev qBJa (a0 : PX) := (Prod.fst (Prod.snd a0))
abbrev qBJb (a0 : PX) := (List.tail (Prod.fst a0))
abbrev qBJ9 (a0 : Int) (b0 : PX) (c0 : PR Tst) (d0 : Int) := ((a0 == (8 : Int)) = false → (isW [(105 : Nat), (115 : Nat)] (Prod.fst b0) = true → True ∧ (∀ (y_1 : Int) (x'_1 : PX), pInt (qBJb b0) (qBJa b0) = Except.ok (y_1, x'_1) → c0 = Except.ok (Tst.mk d0 y_1 y_1, Prod.fst x'_1, Prod.fst (Prod.snd x'_1), ())) ∧ ∀ (e : Int × Int), pInt (qBJb b0) (qBJa b0) = Except.error e → c0 = Except.error e) ∧ (isW [(105 : Nat), (115 : Nat)] (Prod.fst b0) = false → (isW [(105 : Nat), (110 : Nat)] (Prod.fst b0) = true → True ∧ (∀ (y_1 : Int) (x'_1 : PX), pInt (qBJb b0) (qBJa b0) = Except.ok (y_1, x'_1) → (isW [(46 : Nat), (46 : Nat)] (Prod.fst x'_1) = true → True ∧ (∀ (y_2 : Int) (b0 : PX), pInt (qBJb x'_1) (qBJa x'_1) = Except.ok (y_2, b0) → c0 = Except.ok (Tst.mk d0 y_1 y_2, Prod.fst b0, Prod.fst (Prod.snd b0), ())) ∧ ∀ (e : Int × Int), pInt (qBJb x'_1) (qBJa x'_1) = Except.error e → c0 = Except.error e) ∧ (isW [(46 : Nat), (46 : Nat)] (Prod.fst x'_1) = false → c0 = Except.error (hdT (qBJa x'_1) (Prod.fst x'_1), (160 : Int)))) ∧ ∀ (e : Int × Int), pInt (qBJb b0) (qBJa b0) = Except.error e → c0 = Except.error e) ∧ (isW [(105 : Nat), (110 : Nat)] (Prod.fst b0) = false → c0 = Except.error (hdT (qBJa b0) (Prod.fst b0), (160 : Int)))))
abbrev qBJc := (WK.at_ = WK.at_ ∨ WK.at_ = WK.ki ∨ WK.at_ = WK.un)
theorem Zw0 (l : List Tok) (e n : Int) (out : PR Tst)  : Zk E Fme (vc E Fme 400) 64 [.ptr 0 0, .int false .i64 n] (one [.psl Th.toks l false, .int false .i64 e]) 1 (mK (dA1 dN) (n1 fun _ => rfl) dTs (fun _ => rfl) l e out) = (
 (decide ((↑(List.length l) : Int) > (0 : Int)) = true → (0 : Int) ≤ (0 : Int) ∧ (0 : Int) + (1 : Int) ≤ (↑(List.length l) : Int) ∧ ∀ (x : Tok), l[Int.toNat (0 : Int)]? = some x → qBJc ∧ (∀ (y : Int) (x' : PX), Yc (WK.words WK.at_) l e = Except.ok (y, x') → ((n == (8 : Int)) = true → out = Except.error (Tok.at_ x, (2 : Int))) ∧ (qBJ9 n x' out y)) ∧ ∀ (e_1 : Int × Int), Yc (WK.words WK.at_) l e = Except.error e_1 → out = Except.error e_1) ∧ (decide ((↑(List.length l) : Int) > (0 : Int)) = false → qBJc ∧ (∀ (y : Int) (x' : PX), Yc (WK.words WK.at_) l e = Except.ok (y, x') → ((n == (8 : Int)) = true → out = Except.error (e, (2 : Int))) ∧ (qBJ9 n x' out y)) ∧ ∀ (e_1 : Int × Int), Yc (WK.words WK.at_) l e = Except.error e_1 → out = Except.error e_1)) := by kernel_rfl
theorem four {i : Int} (h0 : 0 ≤ i) (h4 : i < 4) : i = 0 ∨ i = 1 ∨ i = 2 ∨ i = 3 := by omega
theorem Z0p (l : List Tok) (e : Int) : Wj (mI .nil n0 dDm (fun _ => rfl)) 142 (l, e, ()) () (Xh l e) := by
 refine Vr Zfa (n := 400) (a := ()) ?_
 rw [show (DcL.nil (E := E)).enc () = [] from rfl, Zwz]; delta qBJ3 qBJ1 qBJ2 qBJ4 qBJ5 qBJ6 qBJ7 qBJ8
 have w1 : wr .i64 1 = 1 := by decide
 have w2 : wr .i64 (-1) = -1 := by decide
 have w3 : wr .i64 0 = 0 := by decide
 refine ⟨.inl rfl, fun y x' h => ⟨fun hb => ?_, fun hb => ?_⟩, fun er h => (Zm7 h).elim⟩
 · obtain ⟨i, b, _⟩ := y
   have hb : b = true := hb
   subst hb
   rcases Y5 h with ⟨q1, q2, rfl⟩ | ⟨_, q2, _⟩
   case inr => cases q2
   cases q2
   have q3 : chz WK.un.words l < 4 := Zpi (by decide)
   generalize hq : chz WK.un.words l = q at *
   rcases four q1 q3 with rfl | rfl | rfl | rfl
   all_goals
    simp [w1]
    refine ⟨fun h1 => ⟨fun j x1 z1 z2 h2 => ?_, fun e1 e2 h2 => ?_⟩, fun h1 => ?_⟩
    · obtain ⟨r1, r2, _⟩ := U3 h2
      have r3 : chz WK.un.words l.tail.tail < 4 := Zpi (by decide)
      rw [← r2] at r1 r3; clear r2
      rcases four r1 r3 with rfl | rfl | rfl | rfl
      all_goals simp [Xh, sPer, incD, decD, w1, w2, w3, *]
    · simp [Xh, sPer, incD, decD, *]
    · simp [Xh, sPer, incD, decD, *]
 · obtain ⟨i, b, _⟩ := y
   have hb : b = false := hb
   subst hb
   rcases Y5 h with ⟨_, q2, _⟩ | ⟨q1, q2, rfl⟩
   case inl => cases q2
   cases q2
   refine ⟨fun h1 => ⟨.inr (.inr rfl), fun j x1 h2 => ?_, fun er h2 => ?_⟩, fun h1 => ?_⟩
   · obtain ⟨r1, r2, _⟩ := U3 h2
     have r3 : chz WK.un.words l.tail < 4 := Zpi (by decide)
     rw [← r2] at r1 r3; clear r2
     rcases four r1 r3 with rfl | rfl | rfl | rfl
     all_goals simp [Xh, sPer, incD, decD, w1, w2, w3, *]
   · simp [Xh, sPer, incD, decD, *]
   · simp [Xh, sPer, incD, decD, *]
theorem Z0q (l : List Tok) (e n : Int) : Wj (mI (dA1 dN) (n1 fun _ => rfl) dTs (fun _ => rfl)) 64 (l, e, ()) (n, ()) (Wl n l e) := by
 refine Vr Zfa (n := 400) (a := (n, ())) ?_
 rw [show (dA1 dN).enc (n, ()) = [.int false .i64 n] from rfl, Zw0]; delta qBJa qBJb qBJ9 qBJc
 cases l with
 | nil =>
  simp only [Zy, Yb, tz, tz0, tp, tp0, tl1, tl2, tg, td, i01, true_and, and_true, forall_eq', forall_eq, Bool.true_eq_false, Bool.false_eq_true, reduceCtorEq, true_implies, false_implies, Int.le_refl, imp_self, bne_iff_ne, ne_eq, bne_eq_false_iff_eq, beq_iff_eq, beq_eq_false_iff_ne]
  repeat' (first | apply And.intro | intro _)
  all_goals first | exact .inl rfl | exact trivial | simp [Wl, hdT, sIs, sIn, Zbw, *]
 | cons t l =>
  simp only [Zy, Yb, tz, tz0, tp, tp0, tl1, tl2, tg, td, i01, true_and, and_true, forall_eq', forall_eq, Bool.true_eq_false, Bool.false_eq_true, reduceCtorEq, true_implies, false_implies, Int.le_refl, imp_self, bne_iff_ne, ne_eq, bne_eq_false_iff_eq, beq_iff_eq, beq_eq_false_iff_ne]
  repeat' (first | apply And.intro | intro _)
  all_goals first | exact .inl rfl | exact trivial | simp [Wl, hdT, sIs, sIn, Zbw, *]
end
section
open Go
noncomputable def dEx : Dc E Ex := (dR .exprs : Dc E (thy.dom Th.exprs))
abbrev PE := List Tok → Int → PR Ex
def Y7 : List Nat := [40]
def Zx : List Nat := [41]
def sIf : List Nat := [105, 102]
def Z2 : List Nat := [44]
def Zbp : List Nat := [60]
def pOpL (pe : PE) : List (List Nat) → List Ex → List Tok → Int → PR (List Ex)
 | [], acc, l, e => .ok (acc, l, e, ())
 | s :: r, acc, l, e =>
  match pe l e with
  | .error er => .error er
  | .ok (x, y) => if isW s y.1 then pOpL pe r (acc ++ [x]) y.1.tail y.2.1 else .error (hdT y.2.1 y.1, 160)
def pOps (pe : PE) (op : Int) (ss : List (List Nat)) (l : List Tok) (e : Int) : PR Ex :=
 if isW Y7 l then
  match pOpL pe ss [] l.tail e with
  | .error er => .error er
  | .ok (xs, y) => .ok (.mk op 0 0 0 0 0 xs, y)
 else .error (hdT e l, 160)
def Uh (pe : PE) (l : List Tok) (e : Int) : PR Ex :=
 if isW Y7 l then
  match pe l.tail e with
  | .error er => .error er
  | .ok (x, y) => if isW Zx y.1 then .ok (x, y.1.tail, y.2.1, ()) else .error (hdT y.2.1 y.1, 160)
 else if isW sIf l then pOps pe 11 [Zbp, Z2, Z2, Zx] l.tail e
 else match Zo WK.ca.words l e with
  | .error er => .error er
  | .ok (k, y) =>
   if k.2.1 then pOps pe (6 + k.1) [Z2, Zx] y.1 y.2.1
   else match Yc WK.at_.words y.1 y.2.1 with
    | .error er => .error er
    | .ok (a, z) => .ok (.mk 2 a 0 0 0 0 [], z)
def pFac (pe : PE) (l : List Tok) (e : Int) : PR Ex :=
 match l with
 | [] => Uh pe [] e
 | t :: r =>
  if t.kind = 2 then
   match Xh r e with
   | .error er => .error er
   | .ok (d, y) => .ok (.mk 1 t.n (d.getD 0 0) (d.getD 1 0) (d.getD 2 0) (d.getD 3 0) [], y)
  else Uh pe (t :: r) e
def Shr (pe : PE) : Prop := ∀ l e y x', pe l e = .ok (y, x') → x'.1.length < l.length
theorem Zr {s : List Nat} {l : List Tok} (h : isW s l = true) : l.tail.length + 1 = l.length := by
 cases l with
 | nil => cases h
 | cons t l => rfl
theorem Z66 {s : List Nat} {l : List Tok} {P : Prop} (h : isW s l = true → l.tail.length + 1 = l.length → P) : isW s l = true → P := fun q => h q (Zr q)
theorem Z1f {pe : PE} (H : Shr pe) {l : List Tok} {e : Int} {P : Ex → PX → Prop} (h : ∀ y x', pe l e = .ok (y, x') → x'.1.length < l.length → P y x') : ∀ y x', pe l e = .ok (y, x') → P y x' := fun y x' q => h y x' q (H _ _ _ _ q)
theorem Zaw {ws : List (List Nat)} {l : List Tok} (h : 0 ≤ chz ws l) : l.tail.length + 1 = l.length := by
 cases l with
 | nil => cases h
 | cons t l => rfl
theorem Z1g {l : List Tok} {e : Int} {A B : Int × Bool × Unit → PX → Prop} (hA : ∀ y x', Zo WK.ca.words l e = .ok (y, x') → y.2.1 = true → x'.1.length < l.length → wr .i64 (6 + y.1) = 6 + y.1 → A y x') (hB : ∀ y x', Zo WK.ca.words l e = .ok (y, x') → y.2.1 = false → B y x') :
 ∀ y x', Zo WK.ca.words l e = .ok (y, x') → (y.2.1 = true → A y x') ∧ (y.2.1 = false → B y x') := by
 intro y x' q
 refine ⟨fun hy => hA y x' q hy ?_ ?_, fun hy => hB y x' q hy⟩
 · rcases Y5 q with ⟨h1, rfl, rfl⟩ | ⟨_, rfl, _⟩
   · have := Zaw h1
     show l.tail.length < l.length
     omega
   · cases hy
 · rcases Y5 q with ⟨h1, rfl, rfl⟩ | ⟨_, rfl, _⟩
   · have := Zpi (ws := WK.ca.words) (l := l) (by decide)
     have h5 : (WK.ca.words).length = 5 := rfl
     rw [h5] at this
     exact wr64 (by show _ ≤ 6 + chz _ _; omega) (by show 6 + chz _ _ ≤ _; omega)
   · rfl
theorem Zzc {pe : PE} {l : List Tok} {e : Int} (h : ((l.length : Int) == 0) = true) : pFac pe l e = Uh pe l e := by
 cases l with
 | nil => rfl
 | cons t l => rw [tz] at h; cases h
theorem Zzd {pe : PE} {l : List Tok} {e : Int} {x : Tok} (hx : l[Int.toNat 0]? = some x) (h : (x.kind != 2) = true) : pFac pe l e = Uh pe l e := by
 cases l with
 | nil => cases hx
 | cons t l =>
  rw [tg] at hx
  subst hx
  simp at h
  simp [pFac, h]
theorem Zze {l : List Tok} {e : Int} {x : Tok} (hx : l[Int.toNat 0]? = some x) (h : (x.kind != 2) = false) : ∃ r, l = x :: r ∧ x.kind = 2 ∧ pInt l e = .ok (x.n, r, e, ()) := by
 cases l with
 | nil => cases hx
 | cons t l =>
  rw [tg] at hx
  subst hx
  simp at h
  exact ⟨l, rfl, h, by simp [pInt, h]⟩
theorem Zhx {l : List Tok} (h : ((l.length : Int) == 0) = false) : (0 : Int) ≤ 0 ∧ (0 : Int) + 1 ≤ l.length := by
 have : (l.length : Int) ≠ 0 := by simpa using h
 omega
noncomputable def Z67 : Sum thy := sumM (mI .nil n0 dDm (fun _ => rfl)) (fun _ _ => True) fun x _ => Xh x.1 x.2.1
theorem Zzf : SumOk E 142 Z67 := Xg E_ok (Zc rfl) fun x _ _ => Z0p x.1 x.2.1
noncomputable def Z83 (n : Nat) (pe : PE) : Sum thy := sumM (mI .nil n0 dEx (fun _ => rfl)) (fun x _ => x.1.length < n) fun x _ => pe x.1 x.2.1
noncomputable def Ffa (n : Nat) (pe : PE) : Fns thy := addS (addS Fme 142 Z67) 65 (Z83 n pe)
abbrev qBKd (a0 : PX) := (Prod.fst a0)
abbrev qBK6 (a0 : PX) := (List.tail (qBKd a0))
abbrev qBK5 := (1 : Nat)
abbrev qBKf := (qBK5 + qBK5 + qBK5 + qBK5)
abbrev qBK2 (a0 : Ex) (b0 : Ex) := (List.take qBK5 [Ex.mk (Ex.op a0) (Ex.n a0) (Ex.d0 a0) (Ex.d1 a0) (Ex.d2 a0) (Ex.d3 a0) (Ex.l a0)] ++ [Ex.mk (Ex.op b0) (Ex.n b0) (Ex.d0 b0) (Ex.d1 b0) (Ex.d2 b0) (Ex.d3 b0) (Ex.l b0)])
abbrev qBK8 (a0 : Ex) (b0 : Ex) (c0 : Ex) := (List.take (qBK5 + qBK5) (qBK2 a0 b0) ++ [Ex.mk (Ex.op c0) (Ex.n c0) (Ex.d0 c0) (Ex.d1 c0) (Ex.d2 c0) (Ex.d3 c0) (Ex.l c0)])
abbrev qBKe (a0 : Ex) (b0 : Ex) (c0 : Ex) (d0 : Ex) := (List.take (qBK5 + qBK5 + qBK5) (qBK8 a0 b0 c0) ++ [Ex.mk (Ex.op d0) (Ex.n d0) (Ex.d0 d0) (Ex.d1 d0) (Ex.d2 d0) (Ex.d3 d0) (Ex.l d0)])
abbrev qBK7 (a0 : PX) := (Prod.fst (Prod.snd a0))
abbrev qBK9 := (0 : Int)
abbrev qBK4 (a0 : PX) := (hdT (qBK7 a0) (qBKd a0), (160 : Int))
abbrev qBKb (a0 : PX) (b0 : PR Ex) := (isW [(41 : Nat)] (qBKd a0) = false → b0 = Except.error (qBK4 a0))
abbrev qBKc := (qBK5 ≤ qBK5 ∧ (0 : Nat) ≤ qBK5 ∧ (qBK5 + qBK5) * (72 : Nat) ≤ (140737488355328 : Nat))
abbrev qBKa (a0 : PX) (b0 : PR Ex) := (isW [(44 : Nat)] (qBKd a0) = false → b0 = Except.error (qBK4 a0))
abbrev qBK1 (a0 : List Tok) (b0 : Nat) (c0 : PE) (d0 : Int) (e0 : PR Ex) := (isW [(40 : Nat)] a0 = false → (isW [(105 : Nat), (102 : Nat)] a0 = true → (isW [(40 : Nat)] (List.tail a0) = true → List.length (List.tail (List.tail a0)) + qBK5 ≤ b0 ∧ (∀ (y : Ex) (x' : PX), c0 (List.tail (List.tail a0)) d0 = Except.ok (y, x') → (isW [(60 : Nat)] (qBKd x') = true → List.length (qBK6 x') + qBK5 ≤ b0 ∧ (∀ (y_1 : Ex) (x'_1 : PX), c0 (qBK6 x') (qBK7 x') = Except.ok (y_1, x'_1) → qBKc ∧ (isW [(44 : Nat)] (qBKd x'_1) = true → List.length (qBK6 x'_1) + qBK5 ≤ b0 ∧ (∀ (y_2 : Ex) (x' : PX), c0 (qBK6 x'_1) (qBK7 x'_1) = Except.ok (y_2, x') → (qBK5 + qBK5 ≤ List.length (qBK2 y y_1) ∧ (0 : Nat) ≤ qBK5 + qBK5 ∧ (qBK5 + qBK5 + qBK5) * (72 : Nat) ≤ (140737488355328 : Nat)) ∧ (isW [(44 : Nat)] (qBKd x') = true → List.length (qBK6 x') + qBK5 ≤ b0 ∧ (∀ (y_3 : Ex) (x'_2 : PX), c0 (qBK6 x') (qBK7 x') = Except.ok (y_3, x'_2) → (qBK5 + qBK5 + qBK5 ≤ List.length (qBK8 y y_1 y_2) ∧ (0 : Nat) ≤ qBK5 + qBK5 + qBK5 ∧ qBKf * (72 : Nat) ≤ (140737488355328 : Nat)) ∧ (isW [(41 : Nat)] (qBKd x'_2) = true → (0 : Nat) + qBKf ≤ List.length (qBKe y y_1 y_2 y_3) ∧ e0 = Except.ok (Ex.mk (11 : Int) qBK9 qBK9 qBK9 qBK9 qBK9 (List.take qBKf (List.drop (0 : Nat) (qBKe y y_1 y_2 y_3))), List.tail (qBKd x'_2), Prod.fst (Prod.snd x'_2), ())) ∧ (qBKb x'_2 e0)) ∧ ∀ (d0 : Int × Int), c0 (qBK6 x') (qBK7 x') = Except.error d0 → e0 = Except.error d0) ∧ (qBKa x' e0)) ∧ ∀ (d0 : Int × Int), c0 (qBK6 x'_1) (qBK7 x'_1) = Except.error d0 → e0 = Except.error d0) ∧ (qBKa x'_1 e0)) ∧ ∀ (d0 : Int × Int), c0 (qBK6 x') (qBK7 x') = Except.error d0 → e0 = Except.error d0) ∧ (isW [(60 : Nat)] (qBKd x') = false → e0 = Except.error (qBK4 x'))) ∧ ∀ (e_1 : Int × Int), c0 (List.tail (List.tail a0)) d0 = Except.error e_1 → e0 = Except.error e_1) ∧ (isW [(40 : Nat)] (List.tail a0) = false → e0 = Except.error (hdT d0 (List.tail a0), (160 : Int)))) ∧ (isW [(105 : Nat), (102 : Nat)] a0 = false → (WK.ca = WK.un ∨ WK.ca = WK.ca) ∧ (∀ (y : Int × Bool × Unit) (x' : PX), Zo (WK.words WK.ca) a0 d0 = Except.ok (y, x') → (Prod.fst (Prod.snd y) = true → (isW [(40 : Nat)] (qBKd x') = true → List.length (qBK6 x') + qBK5 ≤ b0 ∧ (∀ (y_1 : Ex) (x'_1 : PX), c0 (qBK6 x') (qBK7 x') = Except.ok (y_1, x'_1) → (isW [(44 : Nat)] (qBKd x'_1) = true → List.length (qBK6 x'_1) + qBK5 ≤ b0 ∧ (∀ (y_2 : Ex) (x' : PX), c0 (qBK6 x'_1) (qBK7 x'_1) = Except.ok (y_2, x') → qBKc ∧ (isW [(41 : Nat)] (qBKd x') = true → (0 : Nat) + (qBK5 + qBK5) ≤ List.length (qBK2 y_1 y_2) ∧ e0 = Except.ok (Ex.mk (wr IntKind.i64 ((6 : Int) + Prod.fst y)) qBK9 qBK9 qBK9 qBK9 qBK9 (List.take (qBK5 + qBK5) (List.drop (0 : Nat) (qBK2 y_1 y_2))), List.tail (qBKd x'), Prod.fst (Prod.snd x'), ())) ∧ (qBKb x' e0)) ∧ ∀ (d0 : Int × Int), c0 (qBK6 x'_1) (qBK7 x'_1) = Except.error d0 → e0 = Except.error d0) ∧ (qBKa x'_1 e0)) ∧ ∀ (d0 : Int × Int), c0 (qBK6 x') (qBK7 x') = Except.error d0 → e0 = Except.error d0) ∧ (isW [(40 : Nat)] (qBKd x') = false → e0 = Except.error (qBK4 x'))) ∧ (Prod.fst (Prod.snd y) = false → (WK.at_ = WK.at_ ∨ WK.at_ = WK.ki ∨ WK.at_ = WK.un) ∧ (∀ (y : Int) (x'_1 : PX), Yc (WK.words WK.at_) (qBKd x') (qBK7 x') = Except.ok (y, x'_1) → e0 = Except.ok (Ex.mk (2 : Int) y qBK9 qBK9 qBK9 qBK9 [], Prod.fst x'_1, Prod.fst (Prod.snd x'_1), ())) ∧ ∀ (d0 : Int × Int), Yc (WK.words WK.at_) (qBKd x') (qBK7 x') = Except.error d0 → e0 = Except.error d0)) ∧ ∀ (e_1 : Int × Int), Zo (WK.words WK.ca) a0 d0 = Except.error e_1 → e0 = Except.error e_1))
abbrev qBK3 (a0 : List Tok) (b0 : Nat) (c0 : PE) (d0 : Int) (e0 : PR Ex) := (isW [(40 : Nat)] a0 = true → List.length (List.tail a0) + qBK5 ≤ b0 ∧ (∀ (y : Ex) (x' : PX), c0 (List.tail a0) d0 = Except.ok (y, x') → (isW [(41 : Nat)] (qBKd x') = true → e0 = Except.ok (Ex.mk (Ex.op y) (Ex.n y) (Ex.d0 y) (Ex.d1 y) (Ex.d2 y) (Ex.d3 y) (Ex.l y), List.tail (qBKd x'), Prod.fst (Prod.snd x'), ())) ∧ (qBKb x' e0)) ∧ ∀ (e_1 : Int × Int), c0 (List.tail a0) d0 = Except.error e_1 → e0 = Except.error e_1)
theorem Zl8 (n : Nat) (pe : PE) (l : List Tok) (e : Int) (out : PR Ex)  : Zk E (Ffa n pe) (vc E (Ffa n pe) 400) 105 [.ptr 0 0] (one [.psl Th.toks l false, .int false .i64 e]) 1 (mK .nil n0 dEx (fun _ => rfl) l e out) = (
 (((↑(List.length l) : Int) == qBK9) = true → (qBK3 l n pe e out) ∧ (qBK1 l n pe e out)) ∧ (((↑(List.length l) : Int) == qBK9) = false → qBK9 ≤ qBK9 ∧ qBK9 + (1 : Int) ≤ (↑(List.length l) : Int) ∧ ∀ (x : Tok), l[Int.toNat qBK9]? = some x → ((Tok.kind x != (2 : Int)) = true → (qBK3 l n pe e out) ∧ (qBK1 l n pe e out)) ∧ ((Tok.kind x != (2 : Int)) = false → qBK9 ≤ qBK9 ∧ qBK9 + (1 : Int) ≤ (↑(List.length l) : Int) ∧ ∀ (x : Tok), l[Int.toNat qBK9]? = some x → True ∧ (∀ (y : Int) (x' : PX), pInt l e = Except.ok (y, x') → True ∧ (∀ (y_1 : List Int) (x'_1 : PX), Xh (qBKd x') (qBK7 x') = Except.ok (y_1, x'_1) → out = Except.ok (Ex.mk (1 : Int) y (List.getD y_1 (0 : Nat) qBK9) (List.getD y_1 qBK5 qBK9) (List.getD y_1 (2 : Nat) qBK9) (List.getD y_1 (3 : Nat) qBK9) [], Prod.fst x'_1, Prod.fst (Prod.snd x'_1), ())) ∧ ∀ (e : Int × Int), Xh (qBKd x') (qBK7 x') = Except.error e → out = Except.error e) ∧ ∀ (e_1 : Int × Int), pInt l e = Except.error e_1 → out = Except.error e_1))) := by kernel_rfl
theorem Z68 {n : Nat} {pe : PE} (hpe : ∀ l e, l.length < n → Wj (mI .nil n0 dEx (fun _ => rfl)) 65 (l, e, ()) () (pe l e)) : FnsOk E (Ffa n pe) := Zb (Zb Zfa Zzf) (Xg E_ok (Zc rfl) fun x _ h => hpe x.1 x.2.1 h)
theorem Zq1 {n : Nat} {pe : PE} (hpe : ∀ l e, l.length < n → Wj (mI .nil n0 dEx (fun _ => rfl)) 65 (l, e, ()) () (pe l e)) (H : Shr pe) (l : List Tok) (e : Int) (hl : l.length < n + 1) :
 Wj (mI .nil n0 dEx (fun _ => rfl)) 105 (l, e, ()) () (pFac pe l e) := by
 refine Vr (Z68 hpe) (n := 400) (a := ()) ?_
 rw [show (DcL.nil (E := E)).enc () = [] from rfl, Zl8]; delta qBKd qBK6 qBK5 qBKf qBK2 qBK8 qBKe qBK7 qBK9 qBK4 qBKb qBKc qBKa qBK1 qBK3
 refine ⟨fun h0 => ?_, fun h0 => ⟨(Zhx h0).1, (Zhx h0).2, fun x hx => ⟨fun h2 => ?_, fun h2 => ?_⟩⟩⟩
 · rw [Zzc h0]; clear h0
   repeat' (first | refine Z66 fun _ _ => ?_ | refine Z1f H fun _ _ _ _ => ?_ | refine Z1g (fun _ _ _ _ _ _ => ?_) (fun _ _ _ _ => ?_) | apply And.intro | intro _)
   all_goals first | exact .inr rfl | exact .inl rfl | exact trivial | omega | simp [Uh, pOps, pOpL, Y7, Zx, sIf, Z2, Zbp, Ex.eta, *]
 · rw [Zzd hx h2]; clear h0 hx h2
   repeat' (first | refine Z66 fun _ _ => ?_ | refine Z1f H fun _ _ _ _ => ?_ | refine Z1g (fun _ _ _ _ _ _ => ?_) (fun _ _ _ _ => ?_) | apply And.intro | intro _)
   all_goals first | exact .inr rfl | exact .inl rfl | exact trivial | omega | simp [Uh, pOps, pOpL, Y7, Zx, sIf, Z2, Zbp, Ex.eta, *]
 · obtain ⟨r, rfl, hk, hi⟩ := Zze (e := e) hx h2
   refine ⟨(Zhx h0).1, (Zhx h0).2, fun _ _ => ⟨trivial, fun y x' h3 => ?_, fun er h3 => by rw [hi] at h3; cases h3⟩⟩
   rw [hi] at h3
   injection h3 with h3
   injection h3 with h3 h4
   subst h3; subst h4
   refine ⟨trivial, fun d x2 h5 => ?_, fun er h5 => ?_⟩
   · simp [pFac, hk, h5]
   · simp [pFac, hk, h5]
end
section
open Go.RowKit
section
variable {Y : Thy} {E : Eng Y}
def two (cs : List (SV Y)) : Hp Y := fun b => match Nat.beq b 0 with | true => some (.raw cs 0 none) | false => (match Nat.beq b 1 with | true => some (.raw [.ptr 0 0] 0 none) | false => none)
theorem Zx3 (cs : List (SV Y)) : two cs 0 = some (.raw cs 0 none) := rfl
theorem Z55 (cs : List (SV Y)) : two cs 1 = some (.raw [.ptr 0 0] 0 none) := rfl
theorem Zhb {cs : List (SV Y)} {b : Nat} {x : Blk Y} (h : two cs b = some x) : (b = 0 ∧ x = .raw cs 0 none) ∨ (b = 1 ∧ x = .raw [.ptr 0 0] 0 none) := by
 match b, h with
 | 0, h => cases h; exact .inl ⟨rfl, rfl⟩
 | 1, h => cases h; exact .inr ⟨rfl, rfl⟩
 | b + 2, h => cases h
theorem Z20 (cs : List (SV Y)) : DomLt (two cs) 2 := fun b hb => by
 obtain ⟨x, hx⟩ := Option.ne_none_iff_exists'.1 hb
 rcases Zhb hx with ⟨rfl, _⟩ | ⟨rfl, _⟩ <;> omega
def σ2 (p q : Nat × Nat) : Pl := fun b => match Nat.beq b 0 with | true => some p | false => (match Nat.beq b 1 with | true => some q | false => none)
theorem σ2_some {p q x : Nat × Nat} {b : Nat} (h : σ2 p q b = some x) : (b = 0 ∧ x = p) ∨ (b = 1 ∧ x = q) := by
 match b, h with
 | 0, h => cases h; exact .inl ⟨rfl, rfl⟩
 | 1, h => cases h; exact .inr ⟨rfl, rfl⟩
 | b + 2, h => cases h
theorem Zlg (cs cs' : List (SV Y)) (v : SV Y) : patch (two cs) 2 (mutR v cs') = two cs' := by
 funext b
 rw [Zh]
 match b with
 | 0 => simp [mutR, at1, two]
 | 1 => rw [if_neg (by simp [mutR])]; rfl
 | b + 2 => rw [if_neg (by simp [mutR])]; rfl
def Z56 (E : Eng Y) (f : FuncId) (cs rest : List (SV Y)) (v : SV Y) (cs' : List (SV Y)) : Prop := V9 E f (.ptr 1 0 :: rest) (two cs) 2 (mutR v cs')
def Z57 (E : Eng Y) (f : FuncId) (cs rest : List (SV Y)) (p : Value) : Prop := Zlk E f (.ptr 1 0 :: rest) (two cs) 2 (panR p)
theorem Zlh (hE : EngOk E) {B : Nat} {σ : Pl} {h : Hp Y} {g : GH} {w : World} {b r z c r1 z1 : Nat} {cs cs0 : List (SV Y)} {fc : Nat} {tg tc : Option Y.Th} (hI : Inv E B σ h g w) (hb : h b = some (.raw cs 0 tg)) (hc : h c = some (.raw [.ptr b 0] fc tc)) (hσ : σ b = some (r, z)) (hσc : σ c = some (r1, z1)) (hbc : b ≠ c) (hfc : fc = 0) (hlen : cs.length = cs0.length) (hn : nidL 0 cs0 = true)
 (hden : ∀ σ g (j : Nat) sv', cs0[j]? = some sv' → ∃ sv, cs[j]? = some sv ∧ ∀ u, Den E σ g sv u → Den E σ g sv' u) : Inv E B (σ2 (r, z) (r1, z1)) (two cs0) g w := by
 have hne : r ≠ r1 := by
  rintro rfl
  exact hbc (hI.inj b c _ _ _ (by rw [hb]; simp) (by rw [hc]; simp) hσ hσc)
 refine ⟨hI.gc, hI.gm, fun x y hx => ?_, fun x x' q z2 z3 h1 h2 h3 h4 => ?_, fun x q z' hs => ?_, fun x y q z' o v hx hs hv => ?_, fun x y q z' hx hs => ?_, hI.glob⟩
 · rcases Zhb hx with ⟨rfl, rfl⟩ | ⟨rfl, rfl⟩
   · refine ⟨r, z, rfl, ?_⟩
     obtain ⟨r', z', hσ', arr, e, k1, k2, k3, k4, k5⟩ := hI.blk b _ hb
     rw [hσ] at hσ'; cases hσ'
     refine ⟨arr, e, k1, k2, ?_, fun j sv' hj => ?_, trivial⟩
     · simp only [Blk.cells] at k3 ⊢; omega
     · obtain ⟨sv, h1, h2⟩ := hden σ g j sv' hj
       obtain ⟨v, m1, m2⟩ := k4 j sv h1
       exact ⟨v, m1, Zz hE (h2 v m2) (fun b p hb => by omega) (Zp hn hj)⟩
   · refine ⟨r1, z1, rfl, ?_⟩
     obtain ⟨r', z', hσ', arr, e, k1, k2, k3, k4, k5⟩ := hI.blk c _ hc
     rw [hσc] at hσ'; cases hσ'
     refine ⟨arr, e, k1, k2, k3, fun j sv' hj => ?_, trivial⟩
     cases j with
     | zero =>
      cases hj
      obtain ⟨v, m1, m2⟩ := k4 0 _ rfl
      refine ⟨v, m1, ?_⟩
      cases m2
      rename_i hs
      rw [hσ] at hs; cases hs
      exact .ptr (E := E) (b := 0) rfl
     | succ j => cases hj
 · rcases σ2_some h3 with ⟨rfl, e1⟩ | ⟨rfl, e1⟩ <;> rcases σ2_some h4 with ⟨rfl, e2⟩ | ⟨rfl, e2⟩
   · rfl
   · cases e1; cases e2; exact absurd rfl hne
   · cases e1; cases e2; exact absurd rfl hne
   · rfl
 · rcases σ2_some hs with ⟨rfl, e⟩ | ⟨rfl, e⟩
   · cases e; exact hI.base b _ _ hσ
   · cases e; exact hI.base c _ _ hσc
 · rcases σ2_some hs with ⟨rfl, e⟩ | ⟨rfl, e⟩
   · cases e
     have h2 : o < 0 := hI.fz b (.raw cs 0 tg) _ _ o v hb hσ hv
     omega
   · cases e
     subst hfc
     have h2 : o < 0 := hI.fz c (.raw [.ptr b 0] 0 tc) _ _ o v hc hσc hv
     omega
 · rcases σ2_some hs with ⟨rfl, e⟩ | ⟨rfl, e⟩
   · cases e; exact hI.fm b _ _ _ hb hσ
   · cases e; exact hI.fm c _ _ _ hc hσc
section
variable {X α β ε : Type}
def Zbg (M : MutI E X α β ε) (f : FuncId) (x : X) (a : α) (out : Except ε (β × X)) : Prop :=
 match out with
 | .ok (y, x') => Z56 E f (M.dS.enc x) (M.dA.enc a) (M.v y) (M.dS.enc x')
 | .error e => Z57 E f (M.dS.enc x) (M.dA.enc a) (M.pv e)
def Ztk (M : MutI E X α β ε) (pre : X → α → Prop) (f : X → α → Except ε (β × X)) : Sum Y := fun args h _ k =>
 match args with
 | .ptr c 0 :: rest =>
  (match h c with
  | some (.raw [.ptr b 0] 0 _) =>
   (match Nat.beq b c, h b with
   | false, some (.raw cs 0 _) =>
    (match M.dS.dec cs, M.dA.dec rest with
    | some x, some a => pre x a ∧ (∀ y x', f x a = .ok (y, x') → k (Zgf b (M.v y) (M.dS.enc x'))) ∧ (∀ e, f x a = .error e → k (Zv0 b (M.pv e)))
    | _, _ => False)
   | _, _ => False)
  | _ => False)
 | _ => False
theorem Zji {M : DcL E α} {rest : List (SV Y)} {a : α} (hE : EngOk E) (hr : M.dec rest = some a) (hn : nidL 0 (M.enc a) = true) {c : Nat} {p q : Nat × Nat} {σ : Pl} {g : GH} {vals : List Value} (hσ : σ c = some q) (hd : DenL E σ g (.ptr c 0 :: rest) vals) : DenL E (σ2 p q) g (.ptr 1 0 :: M.enc a) vals := by
 obtain ⟨k1, k2, k3⟩ := M.ok _ _ hr
 refine ⟨by rw [← hd.1]; simp [k2], fun j sv u h1 h2 => ?_⟩
 cases j with
 | zero =>
  simp at h1; subst h1
  have := hd.2 0 _ u rfl h2
  cases this
  rename_i hs
  rw [hσ] at hs; cases hs
  exact .ptr (E := E) (b := 1) rfl
 | succ j =>
  have h1 : (M.enc a)[j]? = some sv := by simpa using h1
  obtain ⟨s0, h3, h4⟩ := k3 σ g j sv h1
  exact Zz hE (h4 u (hd.2 (j + 1) s0 u (by simpa using h3) h2)) (fun b p hb => by omega) (Zp hn h1)
theorem Zhc (hE : EngOk E) {f : Nat} (hg : FnGood E.P f) {M : MutI E X α β ε} {pre : X → α → Prop} {fn : X → α → Except ε (β × X)} (hp : ∀ x a, pre x a → Zbg M f x a (fn x a)) : SumOk E f (Ztk M pre fn) := by
 refine ⟨hg, fun args h i k hD hk => ?_⟩
 unfold Ztk at hk
 split at hk
 case h_2 => exact hk.elim
 rename_i c rest
 split at hk
 case h_2 => exact hk.elim
 rename_i b tc hc
 split at hk
 case h_2 => exact hk.elim
 rename_i cs tg hbc hb
 have hbc : b ≠ c := by intro e; subst e; rw [Nat.beq_refl] at hbc; cases hbc
 split at hk
 case h_2 => exact hk.elim
 rename_i x a hx ha
 obtain ⟨hpp, hk1, hk2⟩ := hk
 have hm := hp x a hpp
 obtain ⟨c1, c2, c3⟩ := M.dS.ok _ _ hx
 have hbn : h b ≠ none := by rw [hb]; simp
 unfold Zbg at hm
 split at hm
 · rename_i y x' ho
   refine ⟨_, hk1 y x' ho, fun b' hb' => by
    have : b' ∈ [b] := hb'
    rw [List.mem_singleton] at this
    rw [this]; exact hbn, .inl ?_⟩
   intro B σ g w vals hh hrd hI hB hfree hd
   obtain rfl : hh = h := funext fun b => hrd b trivial
   obtain ⟨r, z, hσ, _⟩ := hI.blk b _ hb
   obtain ⟨r1, z1, hσc, _⟩ := hI.blk c _ hc
   refine (hm B (σ2 (r, z) (r1, z1)) g w vals _ (fun _ _ => rfl) (Zlh hE hI hb hc hσ hσc hbc rfl c2 (M.hS x) c3) hB (fun c h1 h2 => by simp [mutR] at h2; omega) (Zji hE ha (M.hA a) hσc hd)).mono ?_
   rintro en w' ⟨u, he, σ', g', hS, hI', hv⟩
   rw [Zlg] at hI'
   obtain ⟨q1, q2⟩ := Wu hE (i := i) (v := M.v y) (v0 := M.v y) (x' := some (M.dS.enc x')) hI hb hσ rfl hS hI' (fun c hc => by cases hc; rfl) (fun c hc => by cases hc; exact M.hS x')
   exact ⟨u, he, σ, g', q1, q2, Zz hE hv (fun b p hb => by omega) (M.hv y)⟩
 · rename_i e ho
   refine ⟨_, hk2 e ho, fun b' hb' => by
    have : b' ∈ [b] := hb'
    rw [List.mem_singleton] at this
    rw [this]; exact hbn, .inr ?_⟩
   obtain ⟨p, hp', hm⟩ := hm
   have hp' : (SV.pan (M.pv e) : SV Y) = .pan p := hp'
   cases hp'
   refine ⟨_, rfl, fun B σ g w vals hI hB hfree hd => ?_⟩
   obtain ⟨r, z, hσ, _⟩ := hI.blk b _ hb
   obtain ⟨r1, z1, hσc, _⟩ := hI.blk c _ hc
   refine (hm B (σ2 (r, z) (r1, z1)) g w vals (Zlh hE hI hb hc hσ hσc hbc rfl c2 (M.hS x) c3) hB (fun c h1 h2 => by simp [panR] at h2; omega) (Zji hE ha (M.hA a) hσc hd)).mono ?_
   rintro en w' ⟨he, σ', g', hS, hI'⟩
   obtain ⟨q1, q2⟩ := Wu hE (i := i) (v := .pan (M.pv e)) (v0 := .unk) (x' := none) hI hb hσ rfl hS hI' (fun c hc => by cases hc) (fun c hc => by cases hc)
   exact ⟨he, σ, g', q1, q2⟩
theorem Zx4 {B : Nat} {p q : Nat × Nat} {h : Hp Y} {g g' : GH} {w w' : World} {σ' : Pl} {n : Nat} {mods : List Nat} (hmods : ∀ b ∈ mods, b = 0) (hS : Stp 2 n mods (σ2 p q) g w σ' g' w') (hI' : Inv E B σ' h g' w') (h0 : h 0 ≠ none) : ∀ b r z, b ≠ 0 → b ≠ 1 → h b ≠ none → σ' b = some (r, z) → w.heap.size ≤ r := by
 intro b r z hb hb1 hn hs
 have hs0 : σ2 p q b = none := by
  match b with
  | 0 => exact absurd rfl hb
  | 1 => exact absurd rfl hb1
  | b + 2 => rfl
 rcases hS.blk b r z hs0 hs with h1 | ⟨b', h1, z', h2⟩
 · exact h1
 · obtain rfl := hmods b' h1
   have h3 := hS.sig 0 _ h2
   exact absurd (hI'.inj b 0 r z z' hn h0 hs h3) hb
noncomputable def Z21 (M : MutI E X α β ε) (gth : List (SV Y) → Option Y.Th) (n : Nat) (dec : SV Y → Option β) (decP : Value → Option ε) (x : X) (out : Except ε (β × X)) (r : Res Y) : Prop :=
 match memB 1 r.mods with
 | true => False
 | false => (match U6 r.v with
  | some q => (match decP q with | some e => out = .error e | none => False)
  | none => frzK E gth (patch (two (M.dS.enc x)) 2 r) n r.v fun v' bs =>
   (match patch (two (M.dS.enc x)) 2 r 0 with
   | some (.raw c2 0 _) => frzL (frzK E gth (patch (two (M.dS.enc x)) 2 r) n) c2 fun cs' bs' =>
    (match memB 0 (bs ++ bs') || memB 1 (bs ++ bs'), dec v', M.dS.dec cs' with
    | false, some y, some x' => out = .ok (y, x')
    | _, _, _ => False)
   | _ => False))
theorem Zx5 (hE : EngOk E) {l : List (SV Y)} (hn : nidL 0 l = true) {p q : Nat × Nat} {σ : Pl} {g : GH} {vals : List Value} (hσ : σ 1 = some q) (hd : DenL E σ g (.ptr 1 0 :: l) vals) : DenL E (σ2 p q) g (.ptr 1 0 :: l) vals := by
 refine ⟨hd.1, fun j sv u h1 h2 => ?_⟩
 cases j with
 | zero =>
  simp at h1; subst h1
  have := hd.2 0 _ u rfl h2
  cases this
  rename_i hs
  rw [hσ] at hs; cases hs
  exact .ptr (E := E) (b := 1) rfl
 | succ j =>
  have h1 : l[j]? = some sv := by simpa using h1
  exact Zz hE (hd.2 (j + 1) sv u (by simpa using h1) h2) (fun b p hb => by omega) (Zp hn h1)
theorem Zjj (hE : EngOk E) {call : Nat → List (SV Y) → Hp Y → Nat → (Res Y → Prop) → Prop} (hcall : Vb E call) {M : MutI E X α β ε} {gth : List (SV Y) → Option Y.Th} {n : Nat} {dec : SV Y → Option β} {decP : Value → Option ε} (hdec : ∀ v y, dec v = some y → ∀ σ g u, Den E σ g v u → Den E σ g (M.v y) u) (hdecP : ∀ q e, decP q = some e → M.pv e = q)
 {f : Nat} {x : X} {a : α} {out : Except ε (β × X)} (hk : call f (.ptr 1 0 :: M.dA.enc a) (two (M.dS.enc x)) 2 (Z21 M gth n dec decP x out)) : Zbg M f x a out := by
 obtain ⟨r, hr, hR, htri⟩ := hcall f _ _ _ _ (Z20 _) hk
 unfold Z21 at hr
 split at hr
 · exact hr.elim
 rename_i hm1
 have hmods : ∀ b ∈ r.mods, b = 0 := fun b hb => by
  obtain ⟨y, hy⟩ := Option.ne_none_iff_exists'.1 (hR b hb)
  rcases Zhb hy with ⟨e, _⟩ | ⟨e, _⟩
  · exact e
  · subst e; rw [memB_iff.2 hb] at hm1; cases hm1
 have free1 : ∀ (p q : Nat × Nat) (b : Nat), 2 ≤ b → b < 2 + r.n → σ2 p q b = none := by
  intro p q b hb _
  match b, hb with
  | b + 2, _ => rfl
 have stp : ∀ (p q : Nat × Nat) (g g' g'' : GH) (w w' : World) (σ' : Pl), Stp 2 r.n r.mods (σ2 p q) g w σ' g' w' → g'.le g'' → (∀ q o v, g''.cell q o = some v → g'.cell q o = some v ∨ w.heap.size ≤ q) → (∀ q es, g''.obj q = some es → g'.obj q = some es ∨ w.heap.size ≤ q) → Stp 2 0 [0] (σ2 p q) g w (σ2 p q) g'' w' := by
  intro p q g g' g'' w w' σ' hS hle hc hm
  refine ⟨.refl _, fun b q h => .inl h, hS.gle.trans hle, fun q o v hv => ?_, fun q es hv => ?_, fun q hq hx => hS.heap q hq fun b hb => hx b (by rw [hmods b hb]; simp), hS.size, hS.os, hS.tape, hS.output, fun b q z h1 h2 => by rw [h1] at h2; cases h2⟩
  · rcases hc q o v hv with h1 | h1
    · rcases hS.gcnew q o v h1 with h2 | h2 | ⟨b, h2, h3⟩
      · exact .inl h2
      · exact .inr (.inl h2)
      · exact .inr (.inr ⟨b, by rw [hmods b h2]; simp, h3⟩)
    · exact .inr (.inl h1)
  · rcases hm q es hv with h1 | h1
    · exact hS.gmnew q es h1
    · exact .inr h1
 have start : ∀ (B : Nat) (σ : Pl) (g : GH) (w : World) (vals : Array Value), Inv E B σ (two (M.dS.enc x)) g w → DenL E σ g (.ptr 1 0 :: M.dA.enc a) vals.toList → ∃ rr zz r1 z1, σ 0 = some (rr, zz) ∧ σ 1 = some (r1, z1) ∧ Inv E B (σ2 (rr, zz) (r1, z1)) (two (M.dS.enc x)) g w ∧ DenL E (σ2 (rr, zz) (r1, z1)) g (.ptr 1 0 :: M.dA.enc a) vals.toList := by
  intro B σ g w vals hI hd
  obtain ⟨rr, zz, hσ, _⟩ := hI.blk 0 _ (Zx3 _)
  obtain ⟨r1, z1, hσ1, _⟩ := hI.blk 1 _ (Z55 _)
  exact ⟨rr, zz, r1, z1, hσ, hσ1, Zlh hE hI (Zx3 _) (Z55 _) hσ hσ1 (by omega) rfl rfl (M.hS x) (fun σ g j sv' hj => ⟨sv', hj, fun u h => h⟩), Zx5 hE (M.hA a) hσ1 hd⟩
 split at hr
 · rename_i q hq
   split at hr
   case h_2 => exact hr.elim
   rename_i e he
   subst hr
   show Z57 E f _ _ (M.pv e)
   refine ⟨_, rfl, fun B σ g w vals hI hB hfree hd => ?_⟩
   obtain ⟨rr, zz, r1, z1, hσ, hσ1, hI1, hd1⟩ := start B σ g w vals hI hd
   refine (htri.panic hq hI1 hB (free1 _ _) hd1).mono ?_
   rintro en w' ⟨rfl, σ', g', hS, hI'⟩
   refine ⟨by rw [hdecP q e he], ?_⟩
   have hS1 := stp _ _ g g' g' w w' σ' hS (.refl _) (fun _ _ _ h => .inl h) (fun _ _ h => .inl h)
   have hI2 : Inv E B (σ2 (rr, zz) (r1, z1)) (fun _ => none) g' w' := ⟨hI'.gc, hI'.gm, (fun b x hx => by cases hx), fun b b' r z z' h1 => absurd rfl h1, fun b r z hs => ⟨(hI1.base b r z hs).1, Nat.lt_of_lt_of_le (hI1.base b r z hs).2 hS.size⟩, (fun b x r z o v hx => by cases hx), (fun b x r z hx => by cases hx), hI'.glob⟩
   obtain ⟨q1, q2⟩ := Wu hE (i := 2) (v := .pan (M.pv e)) (v0 := .unk) (x' := none) hI (Zx3 _) hσ rfl hS1 hI2 (fun c hc => by cases hc) (fun c hc => by cases hc)
   refine ⟨σ, g', q1, ?_⟩
   have e2 : patch (two (M.dS.enc x)) 2 ⟨.pan (M.pv e), 0, [0], at1 0 (rawO none), none⟩ = patch (two (M.dS.enc x)) 2 (panR (M.pv e)) := by
    funext b
    rw [Zh, Zh]
    by_cases c : b = 0
    · subst c
      rw [if_pos (by simp), if_pos (by simp [panR])]
      rfl
    · rw [if_neg (by simp [c]), if_neg (by simp [panR, c])]
   rw [← e2]; exact q2
 · rename_i hq
   have htri := htri.tri hq
   obtain ⟨v', bs, hr, o1⟩ := Ul hE n r.v _ hr
   split at hr
   case h_2 => exact hr.elim
   rename_i c2 tg h0
   obtain ⟨cs', bs', hr, o2⟩ := W2 (Ul hE n) hr
   split at hr
   case h_2 => exact hr.elim
   rename_i y x' hmem hy hx'
   rw [Bool.or_eq_false_iff] at hmem
   subst hr
   show Z56 E f _ _ (M.v y) _
   intro B σ g w vals hh hrd hI hB hfree hd
   obtain rfl : hh = two (M.dS.enc x) := funext fun b => hrd b trivial
   obtain ⟨rr, zz, r1, z1, hσ, hσ1, hI1, hd1⟩ := start B σ g w vals hI hd
   refine (htri B _ g w vals _ (fun _ _ => rfl) hI1 hB (free1 _ _) hd1).mono ?_
   rintro en w' ⟨u, rfl, σ', g', hS, hI', hv⟩
   refine ⟨u, rfl, ?_⟩
   have hs0 : σ' 0 = some (rr, zz) := hS.sig 0 _ rfl
   have hrr : rr < w.heap.size := (hI1.base 0 rr zz rfl).2
   have hfar := Zx4 hmods hS hI' (by rw [h0]; simp)
   have hle := Zdf (n := w.heap.size) hI'
   have hkept : Kept E (patch (two (M.dS.enc x)) 2 r) σ' (bs ++ bs') w' (allG g' w.heap.size w') := by
    intro b hb q z y1 hs hy1 j v hj hv
    have hb0 : b ≠ 0 := by
     rintro rfl
     have := memB_iff.2 hb
     rw [this] at hmem; cases hmem.1
    have hb1 : b ≠ 1 := by
     rintro rfl
     have := memB_iff.2 hb
     rw [this] at hmem; cases hmem.2
    show (if w.heap.size ≤ q then w'.cell? ⟨q, j, none⟩ else g'.cell q j) = some v
    rw [if_pos (hfar b q z hb0 hb1 (by rw [hy1]; simp) hs)]
    exact hv
   have hval := o1.den _ σ' g' w' B u _ (fun _ _ => rfl) hI' hle (hkept.sub fun b hb => List.mem_append_left _ hb) hv
   have hcell : ∀ q o v, (allG g' w.heap.size w').cell q o = some v → g'.cell q o = some v ∨ w.heap.size ≤ q := by
    intro q o v hv
    have hv : (if w.heap.size ≤ q then w'.cell? ⟨q, o, none⟩ else g'.cell q o) = some v := hv
    split at hv
    · exact .inr (by assumption)
    · exact .inl hv
   have hobj : ∀ q es, (allG g' w.heap.size w').obj q = some es → g'.obj q = some es ∨ w.heap.size ≤ q := by
    intro q es hv
    have hv : (if w.heap.size ≤ q then (match w'.heap[q]? with | some (.map es _) => some es | _ => none) else g'.obj q) = some es := hv
    split at hv
    · exact .inr (by assumption)
    · exact .inl hv
   have hS1 := stp _ _ g g' _ w w' σ' hS hle hcell hobj
   have hG := Zgq (n := w.heap.size) (B' := B) hI'
   obtain ⟨c1, c2', c3⟩ := M.dS.ok _ _ hx'
   have hI2 : Inv E B (σ2 (rr, zz) (r1, z1)) (one (M.dS.enc x')) (allG g' w.heap.size w') w' := by
    refine ⟨hG.gc, hG.gm, fun b y1 hy1 => ?_, fun b b' q z z' h1 h2 _ _ => by rw [Zbr h1, Zbr h2], fun b q z hs => ⟨(hI1.base b q z hs).1, Nat.lt_of_lt_of_le (hI1.base b q z hs).2 hS.size⟩, fun b y1 q z o v hy1 hs hv => ?_, fun b y1 q z hy1 hs => ?_, hG.glob⟩
    · obtain ⟨rfl, rfl⟩ := Vm hy1
      refine ⟨rr, zz, rfl, ?_⟩
      obtain ⟨r2, z2, m1, arr, e, k1, k2, k3, k4, k5⟩ := hI'.blk 0 _ h0
      rw [hs0] at m1; cases m1
      have hl : cs'.length = c2.length := o2.len
      refine ⟨arr, e, k1, k2, ?_, fun j sv hj => ?_, trivial⟩
      · simp only [Blk.cells] at k3 ⊢; omega
      · obtain ⟨s1, h1, h2⟩ := c3 σ0 (allG g' w.heap.size w') j sv hj
        have hjl : j < c2.length := by rw [← hl]; exact (List.getElem?_eq_some_iff.1 h1).1
        obtain ⟨v, m1, m2⟩ := k4 j _ (List.getElem?_eq_getElem hjl)
        have := o2.den _ σ' g' w' B _ (fun _ _ => rfl) hI' hle (hkept.sub fun b hb => List.mem_append_right _ hb) j _ s1 v (List.getElem?_eq_getElem hjl) h1 m2
        exact ⟨v, m1, (h2 v this).mono (fun b p h => by cases h) (.refl _)⟩
    · obtain ⟨rfl, rfl⟩ := Vm hy1
      rcases σ2_some hs with ⟨_, e⟩ | ⟨e0, _⟩
      case inr => omega
      cases e
      rcases hcell _ o v hv with h1 | h1
      · have h2 : o < 0 := hI'.fz 0 (.raw c2 0 tg) _ _ o v h0 hs0 h1
        omega
      · omega
    · obtain ⟨rfl, rfl⟩ := Vm hy1
      rcases σ2_some hs with ⟨_, e⟩ | ⟨e0, _⟩
      case inr => omega
      cases e
      cases hg' : (allG g' w.heap.size w').obj rr with
      | none => rfl
      | some es =>
       rcases hobj _ es hg' with h1 | h1
       · rw [hI'.fm 0 _ _ _ h0 hs0] at h1; cases h1
       · omega
   obtain ⟨q1, q2⟩ := Wu hE (i := 2) (v := M.v y) (v0 := .unk) (x' := some (M.dS.enc x')) hI (Zx3 _) hσ rfl hS1 hI2 (fun c hc => by cases hc; rfl) (fun c hc => by cases hc; exact M.hS x')
   exact ⟨σ, _, q1, q2, (hdec v' y hy _ _ u hval).mono (fun b p h => by cases h) (.refl _)⟩
end
end
end
section
open Go
noncomputable def mK2 {α β : Type} (dA : DcL E α) (hA : ∀ a, nidL 0 (dA.enc a) = true) (d : Dc E β) (hv : ∀ y, nid 0 (d.enc y) = true) (l : List Tok) (e : Int) (out : PR β) : Res thy → Prop :=
 Z21 (mI dA hA d hv) (fun _ => none) 3 d.dec Zo1 (l, e, ()) out
theorem Zkw {F : Fns thy} (hF : FnsOk E F) {n : Nat} {α β : Type} {dA : DcL E α} {hA : ∀ a, nidL 0 (dA.enc a) = true} {d : Dc E β} {hv : ∀ y, nid 0 (d.enc y) = true} {f : Nat} {l : List Tok} {e : Int} {a : α} {out : PR β}
 (hk : Zk E F (vc E F n) f (.ptr 1 0 :: dA.enc a) (two [.psl Th.toks l false, .int false .i64 e]) 2 (mK2 dA hA d hv l e out)) : Zbg (mI dA hA d hv) f (l, e, ()) a out :=
 Zjj E_ok (Zg E_ok hF n) (fun v y h => (d.ok v y h).2.2) Zkl (x := (l, e, ())) hk
def sMul : List Nat := [42]
def Zae : List Nat := [43]
def W3 : List Nat := [45]
def op1 (l : List Tok) : Int × List Tok := if isW sMul l then (5, l.tail) else (0, l)
def op2 (l : List Tok) : Int × List Tok := if isW Zae l then (3, l.tail) else if isW W3 l then (4, l.tail) else (0, l)
def pOp (o : List Tok → Int × List Tok) (l : List Tok) (e : Int) : PR Int := .ok ((o l).1, (o l).2, e, ())
theorem Zxa (l : List Tok) (e : Int) (out : PR Int)  : Zk E Fme (vc E Fme 400) 106 [.ptr 1 0] (two [.psl Th.toks l false, .int false .i64 e]) 2 (mK2 .nil n0 dN (fun _ => rfl) l e out) = (
(isW [(42 : Nat)] l = true → out = Except.ok ((5 : Int), List.tail l, e, ())) ∧ (isW [(42 : Nat)] l = false → out = Except.ok ((0 : Int), l, e, ()))) := by kernel_rfl
theorem Zxb (l : List Tok) (e : Int) (out : PR Int)  : Zk E Fme (vc E Fme 400) 107 [.ptr 1 0] (two [.psl Th.toks l false, .int false .i64 e]) 2 (mK2 .nil n0 dN (fun _ => rfl) l e out) = (
(isW [(43 : Nat)] l = true → out = Except.ok ((3 : Int), List.tail l, e, ())) ∧ (isW [(43 : Nat)] l = false → (isW [(45 : Nat)] l = true → out = Except.ok ((4 : Int), List.tail l, e, ())) ∧ (isW [(45 : Nat)] l = false → out = Except.ok ((0 : Int), l, e, ())))) := by kernel_rfl
theorem Z2a (l : List Tok) (e : Int) : Zbg (mI .nil n0 dN (fun _ => rfl)) 106 (l, e, ()) () (pOp op1 l e) := by
 refine Zkw Zfa (n := 400) (a := ()) ?_
 rw [show (DcL.nil (E := E)).enc () = [] from rfl, Zxa]
 exact ⟨fun h => by simp [pOp, op1, sMul, h], fun h => by simp [pOp, op1, sMul, h]⟩
theorem Z2b (l : List Tok) (e : Int) : Zbg (mI .nil n0 dN (fun _ => rfl)) 107 (l, e, ()) () (pOp op2 l e) := by
 refine Zkw Zfa (n := 400) (a := ()) ?_
 rw [show (DcL.nil (E := E)).enc () = [] from rfl, Zxb]
 exact ⟨fun h => by simp [pOp, op2, Zae, h], fun h => ⟨fun h2 => by simp [pOp, op2, Zae, W3, h, h2], fun h2 => by simp [pOp, op2, Zae, W3, h, h2]⟩⟩
theorem Zkx (l : List Tok) : (op1 l).2.length ≤ l.length := by
 unfold op1; split
 · have := Zr (by assumption); show l.tail.length ≤ _; omega
 · exact Nat.le_refl _
theorem Zky (l : List Tok) : (op2 l).2.length ≤ l.length := by
 unfold op2; split
 · have := Zr (by assumption); show l.tail.length ≤ _; omega
 · split
   · have := Zr (by assumption); show l.tail.length ≤ _; omega
   · exact Nat.le_refl _
def Ys (o : List Tok → Int × List Tok) (pf : PE) : Nat → Ex → Int → List Tok → Int → PR Ex
 | 0, x, _, l, e => .ok (x, l, e, ())
 | k + 1, x, op, l, e =>
  if op = 0 then .ok (x, l, e, ())
  else match pf l e with
   | .error er => .error er
   | .ok (y, z) => Ys o pf k (.mk op 0 0 0 0 0 [x, y]) (o z.1).1 (o z.1).2 z.2.1
def pCh (o : List Tok → Int × List Tok) (pf : PE) (l : List Tok) (e : Int) : PR Ex :=
 match pf l e with
 | .error er => .error er
 | .ok (y, z) => Ys o pf ((o z.1).2.length + 1) y (o z.1).1 (o z.1).2 z.2.1
noncomputable def Sop1 : Sum thy := Ztk (mI .nil n0 dN (fun _ => rfl)) (fun _ _ => True) fun x _ => pOp op1 x.1 x.2.1
noncomputable def Sop2 : Sum thy := Ztk (mI .nil n0 dN (fun _ => rfl)) (fun _ _ => True) fun x _ => pOp op2 x.1 x.2.1
theorem Z2c : SumOk E 106 Sop1 := Zhc E_ok (Zc rfl) fun x _ _ => Z2a x.1 x.2.1
theorem Z2d : SumOk E 107 Sop2 := Zhc E_ok (Zc rfl) fun x _ _ => Z2b x.1 x.2.1
structure CX where
 e : Ex
 op : Int
 l : List Tok
 ed : Int
 k : Nat
def celP (T : Fr thy) : Nat := match T 2 with | .fn _ _ [.ptr c _] => c | _ => 0
def parP (T : Fr thy) (h : Hp thy) : Nat := match h (celP T) with | some (.raw [.ptr p _] _ _) => p | _ => 0
noncomputable def Ach : Fr thy → Hp thy → Nat → Ann thy := fun T h i => { X := CX, fr := fun x => [(1, T 1), (2, T 2), (6, T 6), (7, T 7), (8, .int false .i64 x.op)], bl := fun x => (parP T h, .raw [.psl Th.toks x.l false, .int false .i64 x.ed] 0 none) :: (celP T, .raw [.ptr (parP T h) 0] 0 none) :: (bOf (T 7), .raw (E.enc Th.exprs x.e) 0 none) :: blkP h (T 6), src := fun _ => [], md := [parP T h, bOf (T 7)], ih := i, M := i + 60, meas := fun x => x.k, fz := [7] }
noncomputable def Sfac (n : Nat) (pf : PE) : Sum thy := sumM (mI .nil n0 dEx (fun _ => rfl)) (fun x _ => x.1.length < n) fun x _ => pf x.1 x.2.1
noncomputable def Stm (n : Nat) (pf : PE) : Sum thy := Ztk (mI .nil n0 dEx (fun _ => rfl)) (fun x _ => x.1.length < n) fun x _ => pf x.1 x.2.1
noncomputable def Ftm (n : Nat) (pf : PE) : Fns thy := addL (addS (addS F0 105 (Sfac n pf)) 106 Sop1) 104 3 Ach E
noncomputable def Fxp (n : Nat) (pf : PE) : Fns thy := addL (addS (addS F0 103 (Stm n pf)) 107 Sop2) 104 3 Ach E
abbrev qBM3 := (0 : Int)
abbrev qBM5 := (0 : Nat)
abbrev qBM1 := (qBM3 = qBM3 ∧ qBM3 = qBM3 ∧ qBM3 = qBM3 ∧ qBM3 = qBM3 ∧ qBM3 = qBM3 ∧ qBM3 = qBM3 ∧ Value.slice none qBM5 qBM5 = Value.slice none qBM5 qBM5 ∧ True)
abbrev qBM2 (a0 : Int) (b0 : CX) := ((Fn.func (105 : Nat) = Fn.func (105 : Nat) ∧ (qBM5 = qBM5 ∧ True) ∧ True) ∧ (Fn.func (106 : Nat) = Fn.func (106 : Nat) ∧ True ∧ qBM5 = qBM5 ∧ True) ∧ qBM5 = qBM5 ∧ qBM5 = qBM5 ∧ a0 = CX.op b0 ∧ True)
abbrev qBM4 := (false = true → false = true)
theorem Zsb (n : Nat) (pf : PE) (l : List Tok) (e : Int) (out : PR Ex)  : Zk E (Ftm n pf) (vc E (Ftm n pf) 400) 103 [.ptr 1 0] (two [.psl Th.toks l false, .int false .i64 e]) 2 (mK2 .nil n0 dEx (fun _ => rfl) l e out) = (
 List.length l + (1 : Nat) ≤ n ∧ (∀ (y : Ex) (x' : PX), pf l e = Except.ok (y, x') → True ∧ (∀ (y_1 : Int) (x'_1 : PX), pOp op1 (Prod.fst x') (Prod.fst (Prod.snd x')) = Except.ok (y_1, x'_1) → ∃ (R : CX → Prop), (∃ (x : CX), R x ∧ true = true ∧ (qBM2 y_1 x) ∧ ((Prod.fst x'_1 = CX.l x ∧ qBM4) ∧ Prod.fst (Prod.snd x'_1) = CX.ed x ∧ True) ∧ (qBM5 = qBM5 ∧ True) ∧ (Ex.op y = Ex.op (CX.e x) ∧ Ex.n y = Ex.n (CX.e x) ∧ Ex.d0 y = Ex.d0 (CX.e x) ∧ Ex.d1 y = Ex.d1 (CX.e x) ∧ Ex.d2 y = Ex.d2 (CX.e x) ∧ Ex.d3 y = Ex.d3 (CX.e x) ∧ (Ex.l y = Ex.l (CX.e x) ∧ qBM4) ∧ True) ∧ qBM1 ∧ True) ∧ ∀ (x : CX), R x → ((CX.op x != qBM3) = true → List.length (CX.l x) + (1 : Nat) ≤ n ∧ (∀ (y : Ex) (x' : PX), pf (CX.l x) (CX.ed x) = Except.ok (y, x') → True ∧ (∀ (y_2 : Int) (x'_2 : PX), pOp op1 (Prod.fst x') (Prod.fst (Prod.snd x')) = Except.ok (y_2, x'_2) → ∃ (x_1 : CX), R x_1 ∧ x_1.5 + (1 : Nat) ≤ x.5 ∧ true = true ∧ (qBM2 y_2 x_1) ∧ ((Prod.fst x'_2 = CX.l x_1 ∧ qBM4) ∧ Prod.fst (Prod.snd x'_2) = CX.ed x_1 ∧ True) ∧ (qBM5 = qBM5 ∧ True) ∧ (CX.op x = Ex.op (CX.e x_1) ∧ qBM3 = Ex.n (CX.e x_1) ∧ qBM3 = Ex.d0 (CX.e x_1) ∧ qBM3 = Ex.d1 (CX.e x_1) ∧ qBM3 = Ex.d2 (CX.e x_1) ∧ qBM3 = Ex.d3 (CX.e x_1) ∧ ([Ex.mk (Ex.op (CX.e x)) (Ex.n (CX.e x)) (Ex.d0 (CX.e x)) (Ex.d1 (CX.e x)) (Ex.d2 (CX.e x)) (Ex.d3 (CX.e x)) (Ex.l (CX.e x)), Ex.mk (Ex.op y) (Ex.n y) (Ex.d0 y) (Ex.d1 y) (Ex.d2 y) (Ex.d3 y) (Ex.l y)] = Ex.l (CX.e x_1) ∧ qBM4) ∧ True) ∧ qBM1 ∧ True) ∧ ∀ (e : Int × Int), pOp op1 (Prod.fst x') (Prod.fst (Prod.snd x')) = Except.error e → out = Except.error e) ∧ ∀ (e : Int × Int), pf (CX.l x) (CX.ed x) = Except.error e → out = Except.error e) ∧ ((CX.op x != qBM3) = false → out = Except.ok (Ex.mk (Ex.op (CX.e x)) (Ex.n (CX.e x)) (Ex.d0 (CX.e x)) (Ex.d1 (CX.e x)) (Ex.d2 (CX.e x)) (Ex.d3 (CX.e x)) (Ex.l (CX.e x)), CX.l x, CX.ed x, ()))) ∧ ∀ (e : Int × Int), pOp op1 (Prod.fst x') (Prod.fst (Prod.snd x')) = Except.error e → out = Except.error e) ∧ ∀ (e_1 : Int × Int), pf l e = Except.error e_1 → out = Except.error e_1) := by kernel_rfl
abbrev qBMa := (0 : Nat)
abbrev qBM8 := (0 : Int)
abbrev qBM6 := (qBM8 = qBM8 ∧ qBM8 = qBM8 ∧ qBM8 = qBM8 ∧ qBM8 = qBM8 ∧ qBM8 = qBM8 ∧ qBM8 = qBM8 ∧ Value.slice none qBMa qBMa = Value.slice none qBMa qBMa ∧ True)
abbrev qBM7 (a0 : Int) (b0 : CX) := ((Fn.func (103 : Nat) = Fn.func (103 : Nat) ∧ True ∧ qBMa = qBMa ∧ True) ∧ (Fn.func (107 : Nat) = Fn.func (107 : Nat) ∧ True ∧ qBMa = qBMa ∧ True) ∧ qBMa = qBMa ∧ qBMa = qBMa ∧ a0 = CX.op b0 ∧ True)
abbrev qBM9 := (false = true → false = true)
theorem Zsc (n : Nat) (pf : PE) (l : List Tok) (e : Int) (out : PR Ex)  : Zk E (Fxp n pf) (vc E (Fxp n pf) 400) 65 [.ptr 0 0] (one [.psl Th.toks l false, .int false .i64 e]) 1 (mK .nil n0 dEx (fun _ => rfl) l e out) = (
 List.length l + (1 : Nat) ≤ n ∧ (∀ (y : Ex) (x' : PX), pf l e = Except.ok (y, x') → True ∧ (∀ (y_1 : Int) (x'_1 : PX), pOp op2 (Prod.fst x') (Prod.fst (Prod.snd x')) = Except.ok (y_1, x'_1) → ∃ (R : CX → Prop), (∃ (x : CX), R x ∧ true = true ∧ (qBM7 y_1 x) ∧ ((Prod.fst x'_1 = CX.l x ∧ qBM9) ∧ Prod.fst (Prod.snd x'_1) = CX.ed x ∧ True) ∧ (qBMa = qBMa ∧ True) ∧ (Ex.op y = Ex.op (CX.e x) ∧ Ex.n y = Ex.n (CX.e x) ∧ Ex.d0 y = Ex.d0 (CX.e x) ∧ Ex.d1 y = Ex.d1 (CX.e x) ∧ Ex.d2 y = Ex.d2 (CX.e x) ∧ Ex.d3 y = Ex.d3 (CX.e x) ∧ (Ex.l y = Ex.l (CX.e x) ∧ qBM9) ∧ True) ∧ qBM6 ∧ True) ∧ ∀ (x : CX), R x → ((CX.op x != qBM8) = true → List.length (CX.l x) + (1 : Nat) ≤ n ∧ (∀ (y : Ex) (x' : PX), pf (CX.l x) (CX.ed x) = Except.ok (y, x') → True ∧ (∀ (y_2 : Int) (x'_2 : PX), pOp op2 (Prod.fst x') (Prod.fst (Prod.snd x')) = Except.ok (y_2, x'_2) → ∃ (x_1 : CX), R x_1 ∧ x_1.5 + (1 : Nat) ≤ x.5 ∧ true = true ∧ (qBM7 y_2 x_1) ∧ ((Prod.fst x'_2 = CX.l x_1 ∧ qBM9) ∧ Prod.fst (Prod.snd x'_2) = CX.ed x_1 ∧ True) ∧ (qBMa = qBMa ∧ True) ∧ (CX.op x = Ex.op (CX.e x_1) ∧ qBM8 = Ex.n (CX.e x_1) ∧ qBM8 = Ex.d0 (CX.e x_1) ∧ qBM8 = Ex.d1 (CX.e x_1) ∧ qBM8 = Ex.d2 (CX.e x_1) ∧ qBM8 = Ex.d3 (CX.e x_1) ∧ ([Ex.mk (Ex.op (CX.e x)) (Ex.n (CX.e x)) (Ex.d0 (CX.e x)) (Ex.d1 (CX.e x)) (Ex.d2 (CX.e x)) (Ex.d3 (CX.e x)) (Ex.l (CX.e x)), Ex.mk (Ex.op y) (Ex.n y) (Ex.d0 y) (Ex.d1 y) (Ex.d2 y) (Ex.d3 y) (Ex.l y)] = Ex.l (CX.e x_1) ∧ qBM9) ∧ True) ∧ qBM6 ∧ True) ∧ ∀ (e : Int × Int), pOp op2 (Prod.fst x') (Prod.fst (Prod.snd x')) = Except.error e → out = Except.error e) ∧ ∀ (e : Int × Int), pf (CX.l x) (CX.ed x) = Except.error e → out = Except.error e) ∧ ((CX.op x != qBM8) = false → out = Except.ok (Ex.mk (Ex.op (CX.e x)) (Ex.n (CX.e x)) (Ex.d0 (CX.e x)) (Ex.d1 (CX.e x)) (Ex.d2 (CX.e x)) (Ex.d3 (CX.e x)) (Ex.l (CX.e x)), CX.l x, CX.ed x, ()))) ∧ ∀ (e : Int × Int), pOp op2 (Prod.fst x') (Prod.fst (Prod.snd x')) = Except.error e → out = Except.error e) ∧ ∀ (e_1 : Int × Int), pf l e = Except.error e_1 → out = Except.error e_1) := by kernel_rfl
theorem Z5a {n : Nat} {pf : PE} (hpf : ∀ l e, l.length < n → Wj (mI .nil n0 dEx (fun _ => rfl)) 105 (l, e, ()) () (pf l e)) : FnsOk E (Ftm n pf) := Zv E_ok (Zb (Zb F0_ok (Xg E_ok (Zc rfl) fun x _ h => hpf x.1 x.2.1 h)) Z2c) _ _ _
theorem Z5b {n : Nat} {pf : PE} (hpf : ∀ l e, l.length < n → Zbg (mI .nil n0 dEx (fun _ => rfl)) 103 (l, e, ()) () (pf l e)) : FnsOk E (Fxp n pf) := Zv E_ok (Zb (Zb F0_ok (Zhc E_ok (Zc rfl) fun x _ h => hpf x.1 x.2.1 h)) Z2d) _ _ _
theorem Zxc {n : Nat} {pf : PE} (hpf : ∀ l e, l.length < n → Wj (mI .nil n0 dEx (fun _ => rfl)) 105 (l, e, ()) () (pf l e)) (H : Shr pf) (l : List Tok) (e : Int) (hl : l.length < n) :
 Zbg (mI .nil n0 dEx (fun _ => rfl)) 103 (l, e, ()) () (pCh op1 pf l e) := by
 refine Zkw (Z5a hpf) (n := 400) (a := ()) ?_
 rw [show (DcL.nil (E := E)).enc () = [] from rfl, Zsb]; delta qBM3 qBM5 qBM1 qBM2 qBM4
 refine ⟨by omega, fun y x' h => ⟨trivial, fun y1 x1 ho => ?_, fun er ho => by cases ho⟩, fun er h => by simp [pCh, h]⟩
 unfold pOp at ho
 injection ho with ho
 injection ho with ho1 ho2
 subst ho1; subst ho2
 have hs := H _ _ _ _ h
 have hs2 := Zkx x'.1
 refine ⟨fun x => Ys op1 pf x.k x.e x.op x.l x.ed = pCh op1 pf l e ∧ x.l.length < x.k ∧ x.l.length < n, ⟨⟨y, (op1 x'.1).1, (op1 x'.1).2, x'.2.1, (op1 x'.1).2.length + 1⟩, ⟨by simp [pCh, h], (by show (op1 x'.1).2.length < (op1 x'.1).2.length + 1; omega), (by show (op1 x'.1).2.length < n; omega)⟩, by simp⟩, ?_⟩
 rintro ⟨x, op, l1, ed, k⟩ ⟨hR, hk, hn⟩
 have hk : l1.length < k := hk
 have hn : l1.length < n := hn
 cases k with
 | zero => omega
 | succ k =>
  have hR : Ys op1 pf (k + 1) x op l1 ed = pCh op1 pf l e := hR
  rw [← hR]
  refine ⟨fun h0 => ⟨by omega, fun y2 x2 h2 => ⟨trivial, fun y3 x3 h3 => ?_, fun er h3 => by cases h3⟩, fun er h2 => ?_⟩, fun h0 => ?_⟩
  · unfold pOp at h3
    injection h3 with h3
    injection h3 with h31 h32
    subst h31; subst h32
    have h0 : op ≠ 0 := by simpa using h0
    have h2 : pf l1 ed = .ok (y2, x2) := h2
    have hq := H _ _ _ _ h2
    have hq2 := Zkx x2.1
    refine ⟨⟨.mk op 0 0 0 0 0 [x, y2], (op1 x2.1).1, (op1 x2.1).2, x2.2.1, k⟩, ⟨?_, (by show (op1 x2.1).2.length < k; omega), (by show (op1 x2.1).2.length < n; omega)⟩, Nat.le_refl _, ?_⟩
    · show Ys op1 pf k _ _ _ _ = _
      simp [Ys, h0, h2]
    · simp only [Ex.eta]
      repeat' (first | exact rfl | exact trivial | exact fun h => h | apply And.intro)
  · have h0 : op ≠ 0 := by simpa using h0
    have h2 : pf l1 ed = .error er := h2
    simp [Ys, h0, h2]
  · have h0 : op = 0 := by simpa using h0
    simp [Ys, h0, Ex.eta]
theorem Zsd {n : Nat} {pf : PE} (hpf : ∀ l e, l.length < n → Zbg (mI .nil n0 dEx (fun _ => rfl)) 103 (l, e, ()) () (pf l e)) (H : Shr pf) (l : List Tok) (e : Int) (hl : l.length < n) :
 Wj (mI .nil n0 dEx (fun _ => rfl)) 65 (l, e, ()) () (pCh op2 pf l e) := by
 refine Vr (Z5b hpf) (n := 400) (a := ()) ?_
 rw [show (DcL.nil (E := E)).enc () = [] from rfl, Zsc]; delta qBMa qBM8 qBM6 qBM7 qBM9
 refine ⟨by omega, fun y x' h => ⟨trivial, fun y1 x1 ho => ?_, fun er ho => by cases ho⟩, fun er h => by simp [pCh, h]⟩
 unfold pOp at ho
 injection ho with ho
 injection ho with ho1 ho2
 subst ho1; subst ho2
 have hs := H _ _ _ _ h
 have hs2 := Zky x'.1
 refine ⟨fun x => Ys op2 pf x.k x.e x.op x.l x.ed = pCh op2 pf l e ∧ x.l.length < x.k ∧ x.l.length < n, ⟨⟨y, (op2 x'.1).1, (op2 x'.1).2, x'.2.1, (op2 x'.1).2.length + 1⟩, ⟨by simp [pCh, h], (by show (op2 x'.1).2.length < (op2 x'.1).2.length + 1; omega), (by show (op2 x'.1).2.length < n; omega)⟩, by simp⟩, ?_⟩
 rintro ⟨x, op, l1, ed, k⟩ ⟨hR, hk, hn⟩
 have hk : l1.length < k := hk
 have hn : l1.length < n := hn
 cases k with
 | zero => omega
 | succ k =>
  have hR : Ys op2 pf (k + 1) x op l1 ed = pCh op2 pf l e := hR
  rw [← hR]
  refine ⟨fun h0 => ⟨by omega, fun y2 x2 h2 => ⟨trivial, fun y3 x3 h3 => ?_, fun er h3 => by cases h3⟩, fun er h2 => ?_⟩, fun h0 => ?_⟩
  · unfold pOp at h3
    injection h3 with h3
    injection h3 with h31 h32
    subst h31; subst h32
    have h0 : op ≠ 0 := by simpa using h0
    have h2 : pf l1 ed = .ok (y2, x2) := h2
    have hq := H _ _ _ _ h2
    have hq2 := Zky x2.1
    refine ⟨⟨.mk op 0 0 0 0 0 [x, y2], (op2 x2.1).1, (op2 x2.1).2, x2.2.1, k⟩, ⟨?_, (by show (op2 x2.1).2.length < k; omega), (by show (op2 x2.1).2.length < n; omega)⟩, Nat.le_refl _, ?_⟩
    · show Ys op2 pf k _ _ _ _ = _
      simp [Ys, h0, h2]
    · simp only [Ex.eta]
      repeat' (first | exact rfl | exact trivial | exact fun h => h | apply And.intro)
  · have h0 : op ≠ 0 := by simpa using h0
    have h2 : pf l1 ed = .error er := h2
    simp [Ys, h0, h2]
  · have h0 : op = 0 := by simpa using h0
    simp [Ys, h0, Ex.eta]
end
section
open Go
def Bnd (pe : PE) : Prop := ∀ l e x y, pe l e = .ok (x, y) → x.sz + 2 * y.1.length ≤ 2 * l.length
theorem Bnd.shr {pe : PE} (h : Bnd pe) : Shr pe := fun l e x y hq => by
 have := h l e x y hq
 have := Ex.sz_pos x
 omega
theorem Zfp : ∀ (a b : List Ex), Ex.szL (a ++ b) = Ex.szL a + Ex.szL b
 | [], b => by simp [Ex.szL]
 | x :: a, b => by simp [Ex.szL, Zfp a b]; omega
theorem Znf {pe : PE} (h : Bnd pe) : ∀ {ss : List (List Nat)} {acc : List Ex} {l : List Tok} {e : Int} {xs : List Ex} {y : PX}, pOpL pe ss acc l e = .ok (xs, y) → Ex.szL xs + 2 * y.1.length ≤ Ex.szL acc + 2 * l.length
 | [], acc, l, e, xs, y, hq => by
  unfold pOpL at hq
  injection hq with hq
  injection hq with h1 h2
  subst h1; subst h2
  exact Nat.le_refl _
 | s :: r, acc, l, e, xs, y, hq => by
  unfold pOpL at hq
  split at hq
  · cases hq
  · rename_i x z hx
    split at hq
    · rename_i hw
      have h1 := h _ _ _ _ hx
      have h2 := Zr hw
      have h3 := Znf h hq
      rw [Zfp] at h3
      have h4 : Ex.szL [x] = x.sz := by simp [Ex.szL]
      omega
    · cases hq
theorem Zng {pe : PE} (h : Bnd pe) {op : Int} {ss : List (List Nat)} {l : List Tok} {e : Int} {x : Ex} {y : PX} (hq : pOps pe op ss l e = .ok (x, y)) : x.sz + 2 * y.1.length ≤ 2 * l.length := by
 unfold pOps at hq
 split at hq
 · rename_i hw
   split at hq
   · cases hq
   · rename_i xs z hx
     injection hq with hq
     injection hq with h1 h2
     subst h1; subst h2
     have h3 := Znf h hx
     have h2 := Zr hw
     rw [Ex.sz_eq]
     show Ex.szL xs + 1 + _ ≤ _
     have : Ex.szL ([] : List Ex) = 0 := rfl
     omega
 · cases hq
theorem Zr1 {l : List Tok} {e : Int} {d : List Int} {y : PX} (hq : Xh l e = .ok (d, y)) : y.1.length ≤ l.length := by
 unfold Xh at hq
 split at hq
 · cases hq
 · rename_i k x hc
   have hx : x.1.length ≤ l.length := by
    rcases Y5 hc with ⟨h1, _, rfl⟩ | ⟨_, _, rfl⟩
    · have := Zaw h1; show l.tail.length ≤ _; omega
    · exact Nat.le_refl _
   split at hq
   · rename_i hw
     have hw := Zr hw
     split at hq
     · cases hq
     · rename_i j x1 hm
       obtain ⟨h1, _, rfl⟩ := U3 hm
       have := Zaw h1
       injection hq with hq
       injection hq with _ h2
       subst h2
       show x.1.tail.tail.length ≤ _
       omega
   · injection hq with hq
     injection hq with _ h2
     subst h2
     exact hx
theorem Zip {pe : PE} (h : Bnd pe) : Bnd (Uh pe) := by
 intro l e x y hq
 unfold Uh at hq
 split at hq
 · rename_i hw
   have hw := Zr hw
   split at hq
   · cases hq
   · rename_i x1 y1 hx
     have h1 := h _ _ _ _ hx
     split at hq
     · rename_i hw2
       have hw2 := Zr hw2
       injection hq with hq
       injection hq with h2 h3
       subst h2; subst h3
       show _ + 2 * y1.1.tail.length ≤ _
       omega
     · cases hq
 · split at hq
   · rename_i hw
     have hw := Zr hw
     have := Zng h hq
     omega
   · split at hq
     · cases hq
     · rename_i k y1 hc
       split at hq
       · have h1 := Zng h hq
         rcases Y5 hc with ⟨h2, _, rfl⟩ | ⟨_, _, rfl⟩
         · have := Zaw h2
           have h1 : x.sz + 2 * y.1.length ≤ 2 * l.tail.length := h1
           omega
         · exact h1
       · split at hq
         · cases hq
         · rename_i a z hm
           obtain ⟨h1, _, rfl⟩ := U3 hm
           have hp := Zaw h1
           injection hq with hq
           injection hq with h2 h3
           subst h2; subst h3
           have hy : y1.1.length ≤ l.length := by
            rcases Y5 hc with ⟨h2, _, rfl⟩ | ⟨_, _, rfl⟩
            · have := Zaw h2; show l.tail.length ≤ _; omega
            · exact Nat.le_refl _
           show 1 + 2 * y1.1.tail.length ≤ _
           omega
theorem Wm {pe : PE} (h : Bnd pe) : Bnd (pFac pe) := by
 intro l e x y hq
 unfold pFac at hq
 split at hq
 · exact Zip h _ _ _ _ hq
 · split at hq
   · split at hq
     · cases hq
     · rename_i t r _ _ d z hu
       have h1 := Zr1 hu
       injection hq with hq
       injection hq with h2 h3
       subst h2; subst h3
       show 1 + 2 * z.1.length ≤ 2 * (r.length + 1)
       omega
   · exact Zip h _ _ _ _ hq
def Cns (o : List Tok → Int × List Tok) : Prop := ∀ l, 2 * (o l).2.length + (if (o l).1 = 0 then 0 else 2) ≤ 2 * l.length
theorem Zbx : Cns op1 := by
 intro l
 unfold op1; split
 · have := Zr (by assumption); show 2 * l.tail.length + 2 ≤ _; omega
 · simp
theorem Z15 : Cns op2 := by
 intro l
 unfold op2; split
 · have := Zr (by assumption); show 2 * l.tail.length + 2 ≤ _; omega
 · split
   · have := Zr (by assumption); show 2 * l.tail.length + 2 ≤ _; omega
   · simp
theorem Ziq {o : List Tok → Int × List Tok} {pf : PE} (ho : Cns o) (h : Bnd pf) : ∀ {k : Nat} {x : Ex} {op : Int} {l : List Tok} {e : Int} {z : Ex} {y : PX}, Ys o pf k x op l e = .ok (z, y) → z.sz + 2 * y.1.length ≤ x.sz + 2 * l.length + (if op = 0 then 0 else 2)
 | 0, x, op, l, e, z, y, hq => by
  unfold Ys at hq
  injection hq with hq
  injection hq with h2 h3
  subst h2; subst h3
  exact Nat.le_add_right _ _
 | k + 1, x, op, l, e, z, y, hq => by
  unfold Ys at hq
  split at hq
  · injection hq with hq
    injection hq with h2 h3
    subst h2; subst h3
    exact Nat.le_add_right _ _
  · rename_i hop
    split at hq
    · cases hq
    · rename_i y1 z1 hx
      have h1 := h _ _ _ _ hx
      have h2 := Ziq ho h hq
      have h3 := ho z1.1
      have h4 : (Ex.mk op 0 0 0 0 0 [x, y1]).sz = x.sz + y1.sz + 1 := by rw [Ex.sz_eq]; simp [Ex.l, Ex.szL]
      rw [h4] at h2
      rw [if_neg hop]
      omega
theorem Zac {o : List Tok → Int × List Tok} {pf : PE} (ho : Cns o) (h : Bnd pf) : Bnd (pCh o pf) := by
 intro l e x y hq
 unfold pCh at hq
 split at hq
 · cases hq
 · rename_i y1 z1 hx
   have h1 := h _ _ _ _ hx
   have h2 := Ziq ho h hq
   have h3 := ho z1.1
   omega
def pE : Nat → PE
 | 0 => fun l e => .error (hdT e l, 160)
 | n + 1 => pCh op2 (pCh op1 (pFac (pE n)))
theorem Vp : ∀ n, Bnd (pE n)
 | 0 => fun l e x y hq => by cases hq
 | n + 1 => Zac Z15 (Zac Zbx (Wm (Vp n)))
theorem Znh : ∀ (n : Nat) (l : List Tok) (e : Int), l.length < n → Wj (mI .nil n0 dEx (fun _ => rfl)) 65 (l, e, ()) () (pE n l e)
 | 0, l, e, h => by omega
 | n + 1, l, e, h => Zsd (n := n + 1) (fun l e h => Zxc (n := n + 1) (fun l e h => Zq1 (Znh n) (Vp n).shr l e h) (Wm (Vp n)).shr l e h) (Zac Zbx (Wm (Vp n))).shr l e h
def pX (l : List Tok) (e : Int) : PR Ex := pE (l.length + 1) l e
noncomputable def Sx : Sum thy := sumM (mI .nil n0 dEx (fun _ => rfl)) (fun _ _ => True) fun x _ => pX x.1 x.2.1
theorem Z77 : SumOk E 65 Sx := Xg E_ok (Zc rfl) fun x _ _ => Znh _ _ _ (Nat.lt_succ_self _)
theorem Zni : Bnd pX := fun l e x y hq => Vp _ l e x y hq
end
section
open Go
((op == (1 : Int)) = true → (0 : Int) = v) ∧ ((op == (1 : Int)) = false → ((op == (2 : Int)) = true → (0 : Int) = v) ∧ ((op == (2 : Int)) = false → ((op == (11 : Int)) = true → (4 : Int) = v) ∧ ((op == (11 : Int)) = false → (2 : Int) = v)))) := by kernel_rfl
end
section
open Go
def Z9 (w : Tst) : Bool := decide (0 ≤ w.attr ∧ w.attr < 16 ∧ 0 ≤ w.low ∧ w.low ≤ 1099511627776 ∧ 0 ≤ w.high ∧ w.high ≤ 1099511627776)
def Wh (c : Cls) : Bool := Vc c.name && Yd c.pay && c.when_.all Z9
def resF (s : List Nat) : Bool := decide (s ∈ resW)
noncomputable def goC : Bool → Bool → List (List Nat × Bool) → List Cls → Int
 | a, b, _, [] => if a = true then 161 else if b = true then 2 else 0
 | a, b, m, c :: r => if Wh c = true then goC (a || resF c.name || (Yu m c.name).getD false) (b || decide (8 < c.when_.length) || decide (24 < Zw c.pay)) (putS m c.name true) r else 1
noncomputable def Y3 (t : Tar) : Int := if Vc t.name = true ∧ 1 ≤ t.for_ ∧ t.for_ ≤ 6 then goC (resF t.name) (decide (64 < t.clauses.length)) [] t.clauses else 1
noncomputable def Z47 : Sum thy := sumP (dA1 dS) (fun _ => True) fun x => .bool false (Vc x.1)
theorem Zw3 : SumOk E 47 Z47 := Yh E_ok (Zc (f := 47) rfl) fun x h => Zt8 _
noncomputable def Sres : Sum thy := sumP (dA1 dS) (fun _ => True) fun x => .bool false (resF x.1)
theorem Z10 : SumOk E 48 Sres := Yh E_ok (Zc (f := 48) rfl) fun x h => Zn7 _
noncomputable def Zr0 : Sum thy := sumP dExp (fun x => x.1.sz < 1000000000000) fun x => .bool false (Yd x.1)
theorem Zpl : SumOk E 49 Zr0 := Yh E_ok (Zc (f := 49) rfl) fun x h => Zw9 _ (Nat.le_refl _) _ h
noncomputable def Zgj : Sum thy := sumP dExp (fun x => x.1.sz < 1000000000000) fun x => .int false .i64 (Zw x.1 : Int)
theorem Zdb : SumOk E 50 Zgj := Yh E_ok (Zc (f := 50) rfl) fun x h => Zzo _ _ (Nat.le_refl _) (Nat.le_of_lt h)
structure CkX where
 k : Nat
 r : Nat
 a : Bool
 b : Bool
 m : List (List Nat × Bool)
def blkM {Y : Thy} (h : Hp Y) (v : SV Y) : List (Nat × Blk Y) := match v with | .map b => (match h b with | some x => [(b, x)] | none => []) | _ => []
noncomputable def Ack : Fr thy → Hp thy → Nat → Ann thy := fun T h i => { X := CkX, fr := fun x => [(3, .bool false x.a), (4, .bool false x.b), (5, T 5), (33, T 33), (34, T 34), (35, .int false .i64 x.k)], bl := fun x => [(bOf (T 5), .map (Yo (X0 E Th.bools false) x.m))], src := fun _ => [], md := [bOf (T 5)], ih := i, M := i + 40, meas := fun x => x.r }
noncomputable def Atst : Fr thy → Hp thy → Nat → Ann thy := fun T h i => { X := DX, fr := fun x => [(3, T 3), (4, T 4), (5, T 5), (7, T 7), (33, T 33), (34, T 34), (35, T 35), (50, T 50), (51, T 51), (52, .int false .i64 x.k)], bl := fun x => blkP h (T 7) ++ blkM h (T 5), src := fun _ => [], md := [], ih := i, M := i + 30, meas := fun x => x.r }
noncomputable def Fck : Fns thy := addL (addL (addS (addS (addS (addS F0 47 Z47) 48 Sres) 49 Zr0) 50 Zgj) 17 6 Ack E) 17 11 Atst E
theorem Z48 : FnsOk E Fck := Zv E_ok (Zv E_ok (Zb (Zb (Zb (Zb F0_ok Zw3) Z10) Zpl) Zdb) _ _ _) _ _ _
def tarA (t : Tar) : SV thy := .agg (encF false .tariffs t)
noncomputable abbrev qBPb := (X0 E Th.bools false)
noncomputable abbrev qBPl := (1 : Nat)
noncomputable abbrev qBP9 := (X0 E Th.bools (Zi TypeDesc.bool))
noncomputable abbrev qBPm (a0 : Cls) := (mkS (Cls.name a0))
noncomputable abbrev qBP7 (a0 : List (List Nat × Bool)) := (∀ (p : List Nat × Bool), p ∈ a0 → toL (mkS (Prod.fst p)) = Prod.fst p)
noncomputable abbrev qBPg := (false = true → false = true)
noncomputable abbrev qBP6 (a0 : Tar) := (Tar.clauses a0 = Tar.clauses a0 ∧ qBPg)
noncomputable abbrev qBPe (a0 : CkX) := (↑(CkX.k a0) : Int)
noncomputable abbrev qBP5 (a0 : Tar) := (↑(List.length (Tar.clauses a0)) : Int)
noncomputable abbrev qBPj := (1 : Int)
noncomputable abbrev qBPa (a0 : CkX) (b0 : Tar) (c0 : CkX) := (true = CkX.a a0 ∧ true = CkX.b a0 ∧ True ∧ (qBP6 b0) ∧ (qBP5 b0) = (qBP5 b0) ∧ wr IntKind.i64 ((qBPe c0) + qBPj) = (qBPe a0) ∧ True)
noncomputable abbrev qBP3 (a0 : List (List Nat × Bool)) (b0 : Cls) (c0 : CkX) := (Yo qBP9 (putS a0 (Cls.name b0) true) = Yo qBPb (CkX.m c0) ∧ nidE (0 : Nat) (Yo qBP9 (putS a0 (Cls.name b0) true)) = true)
noncomputable abbrev qBPf (a0 : CkX) (b0 : Cls) (c0 : CkX → Prop) (d0 : Tar) := (CkX.b a0 = true → ∃ (l : List (List Nat × Bool)), Yo qBPb (CkX.m a0) = Yo qBP9 l ∧ (qBP7 l) ∧ toL (qBPm b0) = Cls.name b0 ∧ ∃ (x_3 : CkX), c0 x_3 ∧ x_3.2 + qBPl ≤ a0.2 ∧ true = true ∧ (qBPa x_3 d0 a0) ∧ (qBP3 l b0 x_3) ∧ True)
noncomputable abbrev qBPn (a0 : DX) := (↑(DX.k a0) : Int)
noncomputable abbrev qBPp (a0 : Cls) := (Cls.pay a0)
noncomputable abbrev qBP8 (a0 : Cls) := (Cls.name a0 = Cls.name a0 ∧ (Cls.when_ a0 = Cls.when_ a0 ∧ qBPg) ∧ Ex.op (qBPp a0) = Ex.op (qBPp a0) ∧ Ex.n (qBPp a0) = Ex.n (qBPp a0) ∧ Ex.d0 (qBPp a0) = Ex.d0 (qBPp a0) ∧ Ex.d1 (qBPp a0) = Ex.d1 (qBPp a0) ∧ Ex.d2 (qBPp a0) = Ex.d2 (qBPp a0) ∧ Ex.d3 (qBPp a0) = Ex.d3 (qBPp a0) ∧ (Ex.l (qBPp a0) = Ex.l (qBPp a0) ∧ qBPg) ∧ True)
noncomputable abbrev qBP4 (a0 : Cls) := (Ex.mk (Ex.op (qBPp a0)) (Ex.n (qBPp a0)) (Ex.d0 (qBPp a0)) (Ex.d1 (qBPp a0)) (Ex.d2 (qBPp a0)) (Ex.d3 (qBPp a0)) (Ex.l (qBPp a0)))
noncomputable abbrev qBPi (a0 : Cls) := ((↑(Zw (qBP4 a0)) : Int) > (24 : Int))
noncomputable abbrev qBPk (a0 : CkX) := (Yo qBPb (CkX.m a0) = Yo qBPb (CkX.m a0) ∧ nidE (0 : Nat) (Yo qBPb (CkX.m a0)) = true)
noncomputable abbrev qBPo := (0 : Int)
noncomputable abbrev qBPc (a0 : Cls) := (↑(List.length (Cls.when_ a0)) : Int)
noncomputable abbrev qBPd (a0 : Bool) (b0 : CkX) (c0 : Tar) (d0 : CkX) := (a0 = CkX.a b0 ∧ true = CkX.b b0 ∧ True ∧ (qBP6 c0) ∧ (qBP5 c0) = (qBP5 c0) ∧ wr IntKind.i64 ((qBPe d0) + qBPj) = (qBPe b0) ∧ True)
noncomputable abbrev qBP2 (a0 : CkX) (b0 : Cls) (c0 : CkX → Prop) (d0 : Tar) := (CkX.b a0 = false → (decide ((qBPc b0) > (8 : Int)) = true → ∃ (l : List (List Nat × Bool)), Yo qBPb (CkX.m a0) = Yo qBP9 l ∧ (qBP7 l) ∧ toL (qBPm b0) = Cls.name b0 ∧ ∃ (x_3 : CkX), c0 x_3 ∧ x_3.2 + qBPl ≤ a0.2 ∧ true = true ∧ (qBPa x_3 d0 a0) ∧ (qBP3 l b0 x_3) ∧ True) ∧ (decide ((qBPc b0) > (8 : Int)) = false → Ex.sz (qBP4 b0) + qBPl ≤ (1000000000000 : Nat) ∧ (decide (qBPi b0) = true → ∃ (l : List (List Nat × Bool)), Yo qBPb (CkX.m a0) = Yo qBP9 l ∧ (qBP7 l) ∧ toL (qBPm b0) = Cls.name b0 ∧ ∃ (x_3 : CkX), c0 x_3 ∧ x_3.2 + qBPl ≤ a0.2 ∧ true = true ∧ (qBPa x_3 d0 a0) ∧ (qBP3 l b0 x_3) ∧ True) ∧ (decide (qBPi b0) = false → ∃ (l : List (List Nat × Bool)), Yo qBPb (CkX.m a0) = Yo qBP9 l ∧ (qBP7 l) ∧ toL (qBPm b0) = Cls.name b0 ∧ ∃ (x_3 : CkX), c0 x_3 ∧ x_3.2 + qBPl ≤ a0.2 ∧ true = true ∧ (true = CkX.a x_3 ∧ false = CkX.b x_3 ∧ True ∧ (qBP6 d0) ∧ (qBP5 d0) = (qBP5 d0) ∧ wr IntKind.i64 ((qBPe a0) + qBPj) = (qBPe x_3) ∧ True) ∧ (qBP3 l b0 x_3) ∧ True)))
noncomputable abbrev qBP1 (a0 : CkX) (b0 : Tar) (c0 : Int) (d0 : CkX → Prop) := (decide ((qBPe a0) < (qBP5 b0)) = true → qBPo ≤ (qBPe a0) ∧ (qBPe a0) + qBPj ≤ (qBP5 b0) ∧ ∀ (x_1 : Cls), (Tar.clauses b0)[Int.toNat (qBPe a0)]? = some x_1 → True ∧ ((!Vc (Cls.name x_1)) = true → qBPj = c0) ∧ ((!Vc (Cls.name x_1)) = false → Ex.sz (qBP4 x_1) + qBPl ≤ (1000000000000 : Nat) ∧ ((!Yd (qBP4 x_1)) = true → qBPj = c0) ∧ ((!Yd (qBP4 x_1)) = false → ∃ (R_1 : DX → Prop), (∃ (x_2 : DX), R_1 x_2 ∧ true = true ∧ (CkX.a a0 = CkX.a a0 ∧ CkX.b a0 = CkX.b a0 ∧ True ∧ (0 : Nat) = (0 : Nat) ∧ (qBP6 b0) ∧ (qBP5 b0) = (qBP5 b0) ∧ (qBPe a0) = (qBPe a0) ∧ (Cls.when_ x_1 = Cls.when_ x_1 ∧ qBPg) ∧ (qBPc x_1) = (qBPc x_1) ∧ qBPo = (qBPn x_2) ∧ True) ∧ (qBP8 x_1) ∧ (qBPk a0) ∧ True) ∧ ∀ (x_2 : DX), R_1 x_2 → (decide ((qBPn x_2) < (qBPc x_1)) = true → qBPo ≤ (qBPn x_2) ∧ (qBPn x_2) + qBPj ≤ (qBPc x_1) ∧ ∀ (x_3 : Tst), (Cls.when_ x_1)[Int.toNat (qBPn x_2)]? = some x_3 → ∃ (Q : Bool → Prop), ((decide (Tst.attr x_3 < qBPo) = true → Q true) ∧ (decide (Tst.attr x_3 < qBPo) = false → (decide (Tst.attr x_3 ≥ (16 : Int)) = true → Q true) ∧ (decide (Tst.attr x_3 ≥ (16 : Int)) = false → (decide (mm2 false (Tst.low x_3) (Tst.high x_3) < qBPo) = true → Q true) ∧ (decide (mm2 false (Tst.low x_3) (Tst.high x_3) < qBPo) = false → (decide (mm2 true (Tst.low x_3) (Tst.high x_3) > (1099511627776 : Int)) = true → Q true) ∧ (decide (mm2 true (Tst.low x_3) (Tst.high x_3) > (1099511627776 : Int)) = false → Q false))))) ∧ (Q true → qBPj = c0) ∧ (Q false → ∃ (x_4 : DX), R_1 x_4 ∧ x_4.2 + qBPl ≤ x_2.2 ∧ true = true ∧ (CkX.a a0 = CkX.a a0 ∧ CkX.b a0 = CkX.b a0 ∧ True ∧ (0 : Nat) = (0 : Nat) ∧ (qBP6 b0) ∧ (qBP5 b0) = (qBP5 b0) ∧ (qBPe a0) = (qBPe a0) ∧ (Cls.when_ x_1 = Cls.when_ x_1 ∧ qBPg) ∧ (qBPc x_1) = (qBPc x_1) ∧ wr IntKind.i64 ((qBPn x_2) + qBPj) = (qBPn x_4) ∧ True) ∧ (qBP8 x_1) ∧ (qBPk a0) ∧ True)) ∧ (decide ((qBPn x_2) < (qBPc x_1)) = false → (CkX.a a0 = true → (qBPf a0 x_1 d0 b0) ∧ (qBP2 a0 x_1 d0 b0)) ∧ (CkX.a a0 = false → True ∧ (resF (Cls.name x_1) = true → (qBPf a0 x_1 d0 b0) ∧ (qBP2 a0 x_1 d0 b0)) ∧ (resF (Cls.name x_1) = false → ∃ (l : List (List Nat × Bool)), Yo qBPb (CkX.m a0) = Yo qBP9 l ∧ (qBP7 l) ∧ ∀ (y : Bool), y = Option.getD (Yu l (Cls.name x_1)) false → (CkX.b a0 = true → ∃ (l : List (List Nat × Bool)), Yo qBPb (CkX.m a0) = Yo qBP9 l ∧ (qBP7 l) ∧ toL (qBPm x_1) = Cls.name x_1 ∧ ∃ (x_3 : CkX), d0 x_3 ∧ x_3.2 + qBPl ≤ a0.2 ∧ true = true ∧ (qBPd y x_3 b0 a0) ∧ (qBP3 l x_1 x_3) ∧ True) ∧ (CkX.b a0 = false → (decide ((qBPc x_1) > (8 : Int)) = true → ∃ (l : List (List Nat × Bool)), Yo qBPb (CkX.m a0) = Yo qBP9 l ∧ (qBP7 l) ∧ toL (qBPm x_1) = Cls.name x_1 ∧ ∃ (x_3 : CkX), d0 x_3 ∧ x_3.2 + qBPl ≤ a0.2 ∧ true = true ∧ (qBPd y x_3 b0 a0) ∧ (qBP3 l x_1 x_3) ∧ True) ∧ (decide ((qBPc x_1) > (8 : Int)) = false → Ex.sz (qBP4 x_1) + qBPl ≤ (1000000000000 : Nat) ∧ (decide (qBPi x_1) = true → ∃ (l : List (List Nat × Bool)), Yo qBPb (CkX.m a0) = Yo qBP9 l ∧ (qBP7 l) ∧ toL (qBPm x_1) = Cls.name x_1 ∧ ∃ (x_3 : CkX), d0 x_3 ∧ x_3.2 + qBPl ≤ a0.2 ∧ true = true ∧ (qBPd y x_3 b0 a0) ∧ (qBP3 l x_1 x_3) ∧ True) ∧ (decide (qBPi x_1) = false → ∃ (l : List (List Nat × Bool)), Yo qBPb (CkX.m a0) = Yo qBP9 l ∧ (qBP7 l) ∧ toL (qBPm x_1) = Cls.name x_1 ∧ ∃ (x_3 : CkX), d0 x_3 ∧ x_3.2 + qBPl ≤ a0.2 ∧ true = true ∧ (y = CkX.a x_3 ∧ false = CkX.b x_3 ∧ True ∧ (qBP6 b0) ∧ (qBP5 b0) = (qBP5 b0) ∧ wr IntKind.i64 ((qBPe a0) + qBPj) = (qBPe x_3) ∧ True) ∧ (qBP3 l x_1 x_3) ∧ True)))))))))
noncomputable abbrev qBPh (a0 : CkX) (b0 : Tar) (c0 : Int) := (decide ((qBPe a0) < (qBP5 b0)) = false → (CkX.a a0 = true → (161 : Int) = c0) ∧ (CkX.a a0 = false → (CkX.b a0 = true → (2 : Int) = c0) ∧ (CkX.b a0 = false → qBPo = c0)))
theorem Z11 (t : Tar) (v : Int) : Zk E Fck (vc E Fck 400) 17 [tarA t] hp0 0 (fun r => ret E (patch hp0 0 r) r.v (.int false .i64 v)) = (
 True ∧ ((!Vc (Tar.name t)) = true → qBPj = v) ∧ ((!Vc (Tar.name t)) = false → (decide (Tar.for_ t < qBPj) = true → qBPj = v) ∧ (decide (Tar.for_ t < qBPj) = false → (decide (Tar.for_ t > (6 : Int)) = true → qBPj = v) ∧ (decide (Tar.for_ t > (6 : Int)) = false → True ∧ (decide ((qBP5 t) > (64 : Int)) = true → ∃ (R : CkX → Prop), (∃ (x : CkX), R x ∧ true = true ∧ (resF (Tar.name t) = CkX.a x ∧ true = CkX.b x ∧ True ∧ (qBP6 t) ∧ (qBP5 t) = (qBP5 t) ∧ qBPo = (qBPe x) ∧ True) ∧ ([] = Yo qBPb (CkX.m x) ∧ true = true) ∧ True) ∧ ∀ (x : CkX), R x → (qBP1 x t v R) ∧ (qBPh x t v)) ∧ (decide ((qBP5 t) > (64 : Int)) = false → ∃ (R : CkX → Prop), (∃ (x : CkX), R x ∧ true = true ∧ (resF (Tar.name t) = CkX.a x ∧ false = CkX.b x ∧ True ∧ (qBP6 t) ∧ (qBP5 t) = (qBP5 t) ∧ qBPo = (qBPe x) ∧ True) ∧ ([] = Yo qBPb (CkX.m x) ∧ true = true) ∧ True) ∧ ∀ (x : CkX), R x → (qBP1 x t v R) ∧ (qBPh x t v)))))) := by kernel_rfl
theorem Z12 {g : GH} {t : Tar} {u : Value} (h : Den E σ0 g (tarA t) u) : Byt t.name ∧ ∀ c ∈ t.clauses, Byt c.name := by
 obtain ⟨arr, c, rfl, hs, hc, hd⟩ := Z5 h
 refine ⟨Zmk (hd 0 _ rfl), fun x hx => ?_⟩
 have h2 := hd 2 (.psl Th.clauses t.clauses false) rfl
 obtain ⟨v, hv⟩ := Zzu h2 x hx 0 (.str false x.name) rfl
 exact Zmk hv
theorem Zgk (a b : Bool) (m : List (List Nat × Bool)) (c : Cls) (r : List Cls) : goC a b m (c :: r) = if Wh c = true then goC (a || resF c.name || (Yu m c.name).getD false) (b || decide (8 < c.when_.length) || decide (24 < Zw c.pay)) (putS m c.name true) r else 1 := rfl
theorem Znc {l : List Tst} {k : Nat} {w : Tst} (h : l[k]? = some w) : (l.drop k).all Z9 = (Z9 w && (l.drop (k + 1)).all Z9) := by rw [Vl h, List.all_cons]
theorem Zgl {β : Type} : ∀ {m : List (List Nat × β)} {a : List Nat} {v : β}, (∀ p ∈ m, Byt p.1) → Byt a → ∀ p ∈ putS m a v, Byt p.1
 | [], a, v, _, ha, p, hp => by
  rw [putS] at hp
  obtain rfl := List.mem_singleton.1 hp
  exact ha
 | q :: m, a, v, hm, ha, p, hp => by
  rw [putS] at hp
  split at hp
  · rcases List.mem_cons.1 hp with rfl | hp
    · exact hm q (List.mem_cons_self ..)
    · exact hm p (List.mem_cons_of_mem _ hp)
  · rcases List.mem_cons.1 hp with rfl | hp
    · exact hm _ (List.mem_cons_self ..)
    · exact Zgl (fun q hq => hm q (List.mem_cons_of_mem _ hq)) ha p hp
theorem Zfo (t : Tar) (hsz : ∀ c ∈ t.clauses, c.pay.sz < 1000000000000 ∧ c.when_.length < 1000000000000) (hl : t.clauses.length < 1000000000000) : PureC E 17 [tarA t] (.int false .i64 (Y3 t)) := by
  refine Z32 (j := 0) rfl (fun g u h => Z12 h) fun hby => Za E_ok (Zg E_ok Z48 400) ?_
  rw [Z11]; delta qBPb qBPl qBP9 qBPm qBP7 qBPg qBP6 qBPe qBP5 qBPj qBPa qBP3 qBPf qBPn qBPp qBP8 qBP4 qBPi qBPk qBPo qBPc qBPd qBP2 qBP1 qBPh
  simp only [Z8, Z0, X2, X3, X4, beq_iff_eq, bne_iff_ne, beq_eq_false_iff_ne, bne_eq_false_iff_eq, decide_eq_true_eq, decide_eq_false_iff_not, Bool.or_eq_true, Bool.or_eq_false_iff, Bool.not_eq_true', Bool.not_eq_false', Bool.and_eq_true, Bool.and_true, Bool.true_and, Bool.and_eq_false_iff, beq_self_eq_true, Yx, Yn, ne_eq, and_true, true_and, Bool.true_eq_false, Bool.false_eq_true, false_or, or_false, true_implies, imp_self, Int.ofNat_eq_natCast, not_true_eq_false, not_false_eq_true, Decidable.not_not, Ex.eta]
  unfold Y3
  refine And.intro (fun h1 => ?_) (fun h1 => And.intro (fun h2 => ?_) (fun h2 => And.intro (fun h3 => ?_) (fun h3 => ?_)))
  · rw [if_neg (by rw [h1]; simp)]
  · rw [if_neg (by omega)]
  · rw [if_neg (by omega)]
  · rw [if_pos ⟨h1, by omega, by omega⟩]
    refine And.intro (fun h4 => ?_) (fun h4 => ?_)
    · rw [decide_eq_true (show 64 < t.clauses.length by omega)]
      refine ⟨fun x => x.k ≤ t.clauses.length ∧ (∀ p ∈ x.m, Byt p.1) ∧ goC x.a x.b x.m (t.clauses.drop x.k) = goC (resF t.name) true [] t.clauses ∧ x.r = t.clauses.length - x.k, ⟨⟨0, t.clauses.length, resF t.name, true, []⟩, ⟨(by dsimp only; omega), by simp, rfl, rfl⟩, ⟨rfl, rfl, rfl⟩, rfl⟩, ?_⟩
      rintro x ⟨hk, hm, hv, hr⟩
      refine And.intro (fun hq => ⟨by omega, by omega, fun c hc => ?_⟩) (fun hq => ?_)
      · have hc : t.clauses[x.k]? = some c := hc
        rw [Vl hc, Zgk] at hv
        have hcm := List.mem_of_getElem? hc
        obtain ⟨hs1, hs2⟩ := hsz c hcm
        have hcb := hby.2 c hcm
        refine And.intro (fun h5 => ?_) (fun h5 => ⟨by omega, fun h6 => ?_, fun h6 => ?_⟩)
        · rw [← hv, if_neg (by unfold Wh; rw [h5]; simp)]
        · rw [← hv, if_neg (by unfold Wh; rw [h6]; simp)]
        refine ⟨fun y => y.k ≤ c.when_.length ∧ (c.when_.drop y.k).all Z9 = c.when_.all Z9 ∧ y.r = c.when_.length - y.k, ⟨⟨0, c.when_.length, [], [], 0, 0, 0, 0⟩, ⟨(by dsimp only; omega), rfl, rfl⟩, rfl, Xr E_ok _⟩, ?_⟩
        rintro y ⟨hk2, hv2, hr2⟩
        refine And.intro (fun hq2 => ⟨by omega, by omega, fun w hw => ?_⟩) (fun hq2 => ?_)
        · have hw : c.when_[y.k]? = some w := hw
          rw [Znc hw] at hv2
          have hT : Z9 w = decide (0 ≤ w.attr ∧ w.attr < 16 ∧ 0 ≤ w.low ∧ w.low ≤ 1099511627776 ∧ 0 ≤ w.high ∧ w.high ≤ 1099511627776) := rfl
          refine ⟨fun b => b = true ↔ Z9 w = false, ?_, fun hQ => ?_, fun hQ => ?_⟩
          · have q1 : (¬ (0 ≤ w.attr ∧ w.attr < 16 ∧ 0 ≤ w.low ∧ w.low ≤ 1099511627776 ∧ 0 ≤ w.high ∧ w.high ≤ 1099511627776)) → ((true = true) ↔ Z9 w = false) := fun h => by rw [hT, decide_eq_false h]; simp
            have q2 : (0 ≤ w.attr ∧ w.attr < 16 ∧ 0 ≤ w.low ∧ w.low ≤ 1099511627776 ∧ 0 ≤ w.high ∧ w.high ≤ 1099511627776) → ((false = true) ↔ Z9 w = false) := fun h => by rw [hT, decide_eq_true h]; simp
            refine And.intro (fun a1 => q1 (by omega)) (fun a1 => And.intro (fun a2 => q1 (by omega)) (fun a2 => And.intro (fun a3 => q1 (by omega)) (fun a3 => And.intro (fun a4 => q1 (by omega)) (fun a4 => q2 (by omega)))))
          · have hQ := hQ.1 rfl
            rw [hQ, Bool.false_and] at hv2
            rw [← hv, if_neg (by unfold Wh; rw [← hv2]; simp)]
          · have hQ : Z9 w = true := by
              cases hh : Z9 w with
              | true => rfl
              | false => have := hQ.2 hh; simp at this
            rw [hQ, Bool.true_and] at hv2
            exact ⟨⟨y.k + 1, c.when_.length - (y.k + 1), [], [], 0, 0, 0, 0⟩, ⟨(by dsimp only; omega), hv2, rfl⟩, by show c.when_.length - (y.k + 1) + 1 ≤ y.r; omega, wr64 (by omega) (by omega), Xr E_ok _⟩
        · rw [Wt (by omega)] at hv2
          have hok : Wh c = true := by unfold Wh; rw [h5, h6, ← hv2]; rfl
          rw [if_pos hok] at hv
          clear hv2 hr2 hq2 hk2 hok
          repeat' (first | (refine And.intro ?_ ?_) | (refine ⟨x.m, rfl, hm, ?_⟩) | (rintro _ rfl) | (intro h))
          all_goals first
            | omega
            | exact hcb
            | (refine ⟨⟨x.k + 1, t.clauses.length - (x.k + 1), _, _, putS x.m c.name true⟩, ⟨(by dsimp only; omega), Zgl hm hcb, ?_, rfl⟩, (by dsimp only; omega), ⟨rfl, rfl, wr64 (by omega) (by omega)⟩, rfl, Xr E_ok _⟩
               rw [← hv]
               dsimp only
               congr 1
               · first | (simp only [*, Bool.or_true, Bool.true_or, Bool.false_or, Bool.or_false]; done) | (simp only [*, Bool.or_true, Bool.true_or, Bool.false_or, Bool.or_false]; rfl)
               · first | (simp only [*, Bool.or_true, Bool.true_or, Bool.false_or, Bool.or_false]; done) | (simp only [*, Bool.or_true, Bool.true_or, Bool.false_or, Bool.or_false]; symm; simp only [Bool.or_eq_true, Bool.or_eq_false_iff, decide_eq_true_eq, decide_eq_false_iff_not]; omega))
      · rw [Wt (by omega)] at hv
        rw [← hv]
        unfold goC
        refine And.intro (fun a1 => by rw [if_pos a1]) (fun a1 => And.intro (fun a2 => by rw [if_neg (by rw [a1]; simp), if_pos a2]) (fun a2 => by rw [if_neg (by rw [a1]; simp), if_neg (by rw [a2]; simp)]))
    · rw [decide_eq_false (show ¬ 64 < t.clauses.length by omega)]
      refine ⟨fun x => x.k ≤ t.clauses.length ∧ (∀ p ∈ x.m, Byt p.1) ∧ goC x.a x.b x.m (t.clauses.drop x.k) = goC (resF t.name) false [] t.clauses ∧ x.r = t.clauses.length - x.k, ⟨⟨0, t.clauses.length, resF t.name, false, []⟩, ⟨(by dsimp only; omega), by simp, rfl, rfl⟩, ⟨rfl, rfl, rfl⟩, rfl⟩, ?_⟩
      rintro x ⟨hk, hm, hv, hr⟩
      refine And.intro (fun hq => ⟨by omega, by omega, fun c hc => ?_⟩) (fun hq => ?_)
      · have hc : t.clauses[x.k]? = some c := hc
        rw [Vl hc, Zgk] at hv
        have hcm := List.mem_of_getElem? hc
        obtain ⟨hs1, hs2⟩ := hsz c hcm
        have hcb := hby.2 c hcm
        refine And.intro (fun h5 => ?_) (fun h5 => ⟨by omega, fun h6 => ?_, fun h6 => ?_⟩)
        · rw [← hv, if_neg (by unfold Wh; rw [h5]; simp)]
        · rw [← hv, if_neg (by unfold Wh; rw [h6]; simp)]
        refine ⟨fun y => y.k ≤ c.when_.length ∧ (c.when_.drop y.k).all Z9 = c.when_.all Z9 ∧ y.r = c.when_.length - y.k, ⟨⟨0, c.when_.length, [], [], 0, 0, 0, 0⟩, ⟨(by dsimp only; omega), rfl, rfl⟩, rfl, Xr E_ok _⟩, ?_⟩
        rintro y ⟨hk2, hv2, hr2⟩
        refine And.intro (fun hq2 => ⟨by omega, by omega, fun w hw => ?_⟩) (fun hq2 => ?_)
        · have hw : c.when_[y.k]? = some w := hw
          rw [Znc hw] at hv2
          have hT : Z9 w = decide (0 ≤ w.attr ∧ w.attr < 16 ∧ 0 ≤ w.low ∧ w.low ≤ 1099511627776 ∧ 0 ≤ w.high ∧ w.high ≤ 1099511627776) := rfl
          refine ⟨fun b => b = true ↔ Z9 w = false, ?_, fun hQ => ?_, fun hQ => ?_⟩
          · have q1 : (¬ (0 ≤ w.attr ∧ w.attr < 16 ∧ 0 ≤ w.low ∧ w.low ≤ 1099511627776 ∧ 0 ≤ w.high ∧ w.high ≤ 1099511627776)) → ((true = true) ↔ Z9 w = false) := fun h => by rw [hT, decide_eq_false h]; simp
            have q2 : (0 ≤ w.attr ∧ w.attr < 16 ∧ 0 ≤ w.low ∧ w.low ≤ 1099511627776 ∧ 0 ≤ w.high ∧ w.high ≤ 1099511627776) → ((false = true) ↔ Z9 w = false) := fun h => by rw [hT, decide_eq_true h]; simp
            refine And.intro (fun a1 => q1 (by omega)) (fun a1 => And.intro (fun a2 => q1 (by omega)) (fun a2 => And.intro (fun a3 => q1 (by omega)) (fun a3 => And.intro (fun a4 => q1 (by omega)) (fun a4 => q2 (by omega)))))
          · have hQ := hQ.1 rfl
            rw [hQ, Bool.false_and] at hv2
            rw [← hv, if_neg (by unfold Wh; rw [← hv2]; simp)]
          · have hQ : Z9 w = true := by
              cases hh : Z9 w with
              | true => rfl
              | false => have := hQ.2 hh; simp at this
            rw [hQ, Bool.true_and] at hv2
            exact ⟨⟨y.k + 1, c.when_.length - (y.k + 1), [], [], 0, 0, 0, 0⟩, ⟨(by dsimp only; omega), hv2, rfl⟩, by show c.when_.length - (y.k + 1) + 1 ≤ y.r; omega, wr64 (by omega) (by omega), Xr E_ok _⟩
        · rw [Wt (by omega)] at hv2
          have hok : Wh c = true := by unfold Wh; rw [h5, h6, ← hv2]; rfl
          rw [if_pos hok] at hv
          clear hv2 hr2 hq2 hk2 hok
          repeat' (first | (refine And.intro ?_ ?_) | (refine ⟨x.m, rfl, hm, ?_⟩) | (rintro _ rfl) | (intro h))
          all_goals first
            | omega
            | exact hcb
            | (refine ⟨⟨x.k + 1, t.clauses.length - (x.k + 1), _, _, putS x.m c.name true⟩, ⟨(by dsimp only; omega), Zgl hm hcb, ?_, rfl⟩, (by dsimp only; omega), ⟨rfl, rfl, wr64 (by omega) (by omega)⟩, rfl, Xr E_ok _⟩
               rw [← hv]
               dsimp only
               congr 1
               · first | (simp only [*, Bool.or_true, Bool.true_or, Bool.false_or, Bool.or_false]; done) | (simp only [*, Bool.or_true, Bool.true_or, Bool.false_or, Bool.or_false]; rfl)
               · first | (simp only [*, Bool.or_true, Bool.true_or, Bool.false_or, Bool.or_false]; done) | (simp only [*, Bool.or_true, Bool.true_or, Bool.false_or, Bool.or_false]; symm; simp only [Bool.or_eq_true, Bool.or_eq_false_iff, decide_eq_true_eq, decide_eq_false_iff_not]; omega))
      · rw [Wt (by omega)] at hv
        rw [← hv]
        unfold goC
        refine And.intro (fun a1 => by rw [if_pos a1]) (fun a1 => And.intro (fun a2 => by rw [if_neg (by rw [a1]; simp), if_pos a2]) (fun a2 => by rw [if_neg (by rw [a1]; simp), if_neg (by rw [a2]; simp)]))
end
section
open Go
noncomputable def dCl : Dc E Cls := (dR .clauses : Dc E (thy.dom Th.clauses))
noncomputable def dCls : Dc E (List Cls) := (Zpw (E := E) Th.clauses : Dc E (List (thy.dom Th.clauses)))
noncomputable def Z6p : Sum thy := sumM (mI (dA1 dN) (n1 fun _ => rfl) dTs (fun _ => rfl)) (fun _ _ => True) fun x a => Wl a.1 x.1 x.2.1
theorem Zyl : SumOk E 64 Z6p := Xg E_ok (Zc rfl) fun x a _ => Z0q x.1 x.2.1 a.1
def Aif : Fr thy → Hp thy → Nat → Ann thy := fun T h i => { X := LX, fr := fun x => [(0, T 0), (1, T 1), (7, T 7), (8, .int false .i64 x.k)], bl := fun x => (match T 1 with | .fn _ _ [v] => blkP h v | _ => []), src := fun _ => [], md := [], ih := i, M := i + 30, meas := fun x => x.r }
structure TX where
 ts : List Tst
 l : List Tok
 ed : Int
 more : Bool
 k : Nat
def cellsOf (h : Hp thy) (v : SV thy) : List (SV thy) := match h (bOf v) with | some (.raw cs _ _) => cs | _ => []
def Atl : Fr thy → Hp thy → Nat → Ann thy := fun T h i => { X := Bool × TX, fr := fun x => [(0, T 0), (4, T 4), (5, T 5), (6, T 6), (7, .bool false x.2.more)], bl := fun x => (bOf (T 0), .raw [.psl Th.toks x.2.l false, .int false .i64 x.2.ed] 0 none) :: (bOf (T 6), .raw ((cellsOf h (T 6)).take 1 ++ ((match x.1 with | true => .sl i 0 x.2.ts.length 3 none | false => .val (.slice none 0 0)) :: (cellsOf h (T 6)).drop 2)) 0 none) :: ((match x.1 with | true => [(i, .rows Th.tests x.2.ts 0)] | false => []) ++ blkP h (T 4)), src := fun x => (match x.1 with | true => [(i, 2006)] | false => []), md := [bOf (T 0), bOf (T 6)], ih := i + 1, M := i + 60, meas := fun x => x.2.k, ex := ex2, al := al2, exOk := Zuv, alOk := Zuw }
noncomputable def Fcl : Fns thy := addL (addL (addS (addS (addS (addS Fme 34 Z0m) 64 Z6p) 65 Sx) 50 Zgj) 101 2 Aif E) 36 6 Atl E
theorem Z6q : FnsOk E Fcl := Zv E_ok (Zv E_ok (Zb (Zb (Zb (Zb Zfa Zph) Zyl) Z77) Zdb) _ _ _) _ _ _
def pTs : Nat → Bool → List Tst → List Tok → Int → PR (List Tst)
 | 0, _, ts, l, e => .ok (ts, l, e, ())
 | k + 1, more, ts, l, e =>
  if more then
   match Wl ts.length l e with
   | .error er => .error er
   | .ok (t, x) => pTs k (isW [97, 110, 100] x.1) (ts ++ [t]) (if isW [97, 110, 100] x.1 then x.1.tail else x.1) x.2.1
  else .ok (ts, l, e, ())
def pPay (nm : List Nat) (ts : List Tst) (l : List Tok) (e : Int) : PR Cls :=
 if isW [112, 97, 121] l then
  match pX l.tail e with
  | .error er => .error er
  | .ok (x, y) =>
   if 24 < Zw x then .error (hdT e l.tail, 2)
   else if isW [59] y.1 then .ok (⟨nm, ts, x⟩, y.1.tail, y.2.1, ()) else .error (hdT y.2.1 y.1, 160)
 else .error (hdT e l, 160)
def pAft (nm : List Nat) (r : PR (List Tst)) : PR Cls :=
 match r with
 | .error er => .error er
 | .ok (ts, y) => pPay nm ts y.1 y.2.1
def Z6 (bs : List Cls) (l : List Tok) (e : Int) : PR Cls :=
 match Vu l e with
 | .error er => .error er
 | .ok (nm, x) =>
  if bs.any (fun b => b.name == nm) then .error (hdT e l, 161)
  else pAft nm (pTs 10 (isW [119, 104, 101, 110] x.1) [] (if isW [119, 104, 101, 110] x.1 then x.1.tail else x.1) x.2.1)
theorem Zbj {l : List Tok} {e : Int} {y : List Nat} {x : PX} (h : Vu l e = .ok (y, x)) : x.1.length < l.length := by
 unfold Vu at h
 split at h
 · cases h
 · split at h
   · split at h
     · cases h
     · injection h with h
       injection h with _ h
       subst h
       exact Nat.lt_succ_self _
   · cases h
theorem Zhi {l : List Tok} {e : Int} {y : Int} {x : PX} (h : pInt l e = .ok (y, x)) : x.1.length < l.length := by
 unfold pInt at h
 split at h
 · cases h
 · split at h
   · injection h with h
     injection h with _ h
     subst h
     exact Nat.lt_succ_self _
   · cases h
theorem Zuj {s : List Nat} {l : List Tok} : (if isW s l = true then l.tail else l).length ≤ l.length := by
 split
 · have := Zr (by assumption); omega
 · exact Nat.le_refl _
theorem Zeb {n : Int} {l : List Tok} {e : Int} {y : Tst} {x : PX} (h : Wl n l e = .ok (y, x)) : x.1.length < l.length ∧ n ≠ 8 := by
 unfold Wl at h
 split at h
 · cases h
 · rename_i a x0 hm
   obtain ⟨h1, _, rfl⟩ := U3 hm
   have hp := Zaw h1
   split at h
   · cases h
   · rename_i hn
     refine ⟨?_, hn⟩
     split at h
     · rename_i hw
       have hw := Zr hw
       split at h
       · cases h
       · rename_i m x1 hi
         have hi := Zhi hi
         injection h with h
         injection h with _ h
         subst h
         have hw : l.tail.tail.length + 1 = l.tail.length := hw
         have hi : x1.1.length < l.tail.tail.length := hi
         omega
     · split at h
       · rename_i hw
         have hw := Zr hw
         split at h
         · cases h
         · rename_i m x1 hi
           have hi := Zhi hi
           have hw : l.tail.tail.length + 1 = l.tail.length := hw
           have hi : x1.1.length < l.tail.tail.length := hi
           split at h
           · rename_i hw2
             have hw2 := Zr hw2
             split at h
             · cases h
             · rename_i k x2 hi2
               have hi2 := Zhi hi2
               injection h with h
               injection h with _ h
               subst h
               omega
           · cases h
       · cases h
abbrev qBQ6 := (0 : Nat)
abbrev qBQ9 (a0 : Int) (b0 : Bool) (c0 : TX) := (qBQ6 = qBQ6 ∧ qBQ6 = qBQ6 ∧ a0 = a0 ∧ qBQ6 = qBQ6 ∧ b0 = TX.more c0 ∧ True)
abbrev qBQ4 (a0 : Ex) := (Ex.mk (Ex.op a0) (Ex.n a0) (Ex.d0 a0) (Ex.d1 a0) (Ex.d2 a0) (Ex.d3 a0) (Ex.l a0))
abbrev qBQc (a0 : TX) (b0 : PR Cls) := (isW [(112 : Nat), (97 : Nat), (121 : Nat)] (TX.l a0) = false → b0 = Except.error (hdT (TX.ed a0) (TX.l a0), (160 : Int)))
abbrev qBQ7 := (0 : Int)
abbrev qBQh := (false = true → false = true)
abbrev qBQ8 (a0 : PX) (b0 : TX) := ((Prod.fst a0 = TX.l b0 ∧ qBQh) ∧ Prod.fst (Prod.snd a0) = TX.ed b0 ∧ True)
abbrev qBQb (a0 : Ex) := ((↑(Zw (qBQ4 a0)) : Int) > (24 : Int))
abbrev qBQ3 (a0 : List Nat) := (a0 = a0 ∧ Value.slice none qBQ6 qBQ6 = Value.slice none qBQ6 qBQ6 ∧ qBQ7 = qBQ7 ∧ qBQ7 = qBQ7 ∧ qBQ7 = qBQ7 ∧ qBQ7 = qBQ7 ∧ qBQ7 = qBQ7 ∧ qBQ7 = qBQ7 ∧ Value.slice none qBQ6 qBQ6 = Value.slice none qBQ6 qBQ6 ∧ True)
abbrev qBQi (a0 : TX) := (List.tail (TX.l a0))
abbrev qBQ2 := (([] : List Nat) = [] ∧ Value.slice none qBQ6 qBQ6 = Value.slice none qBQ6 qBQ6 ∧ qBQ7 = qBQ7 ∧ qBQ7 = qBQ7 ∧ qBQ7 = qBQ7 ∧ qBQ7 = qBQ7 ∧ qBQ7 = qBQ7 ∧ qBQ7 = qBQ7 ∧ Value.slice none qBQ6 qBQ6 = Value.slice none qBQ6 qBQ6 ∧ True)
abbrev qBQ5 (a0 : Bool × TX → Prop) (b0 : TX) (c0 : Int) (d0 : Bool) (e0 : PX) (f0 : List Nat) := (∃ (y_6 : TX), a0 (false, y_6) ∧ y_6.5 + (1 : Nat) ≤ b0.5 ∧ true = true ∧ (qBQ9 c0 d0 y_6) ∧ (qBQ8 e0 y_6) ∧ (f0 = f0 ∧ False ∧ qBQ7 = qBQ7 ∧ qBQ7 = qBQ7 ∧ qBQ7 = qBQ7 ∧ qBQ7 = qBQ7 ∧ qBQ7 = qBQ7 ∧ qBQ7 = qBQ7 ∧ Value.slice none qBQ6 qBQ6 = Value.slice none qBQ6 qBQ6 ∧ True) ∧ qBQ2 ∧ True)
abbrev qBQa (a0 : PX) := (Prod.fst (Prod.snd a0))
abbrev qBQg (a0 : PX) (b0 : PR Cls) := (isW [(59 : Nat)] (Prod.fst a0) = false → b0 = Except.error (hdT (qBQa a0) (Prod.fst a0), (160 : Int)))
abbrev qBQ1 (a0 : PX) (b0 : Int) (c0 : List Nat) (d0 : PR Cls) := (∀ (y_2 : Bool) (x'_1 : PX), pAcc [(119 : Nat), (104 : Nat), (101 : Nat), (110 : Nat)] (Prod.fst a0) (qBQa a0) = Except.ok (y_2, x'_1) → ∃ (R : Bool × TX → Prop), ((∃ (y_3 : TX), R (false, y_3) ∧ true = true ∧ (qBQ9 b0 y_2 y_3) ∧ (qBQ8 x'_1 y_3) ∧ (qBQ3 c0) ∧ qBQ2 ∧ True) ∨ ∃ (b0 : TX), R (true, b0) ∧ true = true ∧ False) ∧ (∀ (y_3 : TX), R (false, y_3) → (TX.more y_3 = true → True ∧ (∀ (y_4 : Tst) (a0 : PX), Wl qBQ7 (TX.l y_3) (TX.ed y_3) = Except.ok (y_4, a0) → True ∧ (∀ (y_5 : Bool) (x'_2 : PX), pAcc [(97 : Nat), (110 : Nat), (100 : Nat)] (Prod.fst a0) (qBQa a0) = Except.ok (y_5, x'_2) → (qBQ5 R y_3 b0 y_5 x'_2 c0) ∨ ∃ (y_6 : TX), R (true, y_6) ∧ y_6.5 + (1 : Nat) ≤ y_3.5 ∧ true = true ∧ (qBQ9 b0 y_5 y_6) ∧ (qBQ8 x'_2 y_6) ∧ (c0 = c0 ∧ (qBQ6 = qBQ6 ∧ (1 : Nat) = List.length (TX.ts y_6) ∧ True) ∧ qBQ7 = qBQ7 ∧ qBQ7 = qBQ7 ∧ qBQ7 = qBQ7 ∧ qBQ7 = qBQ7 ∧ qBQ7 = qBQ7 ∧ qBQ7 = qBQ7 ∧ Value.slice none qBQ6 qBQ6 = Value.slice none qBQ6 qBQ6 ∧ True) ∧ ([y_4] = TX.ts y_6 ∧ qBQ6 = qBQ6) ∧ qBQ2 ∧ True) ∧ ∀ (e : Int × Int), pAcc [(97 : Nat), (110 : Nat), (100 : Nat)] (Prod.fst a0) (qBQa a0) = Except.error e → d0 = Except.error e) ∧ ∀ (e : Int × Int), Wl qBQ7 (TX.l y_3) (TX.ed y_3) = Except.error e → d0 = Except.error e) ∧ (TX.more y_3 = false → (isW [(112 : Nat), (97 : Nat), (121 : Nat)] (TX.l y_3) = true → ∀ (b0 : Int), b0 = hdT (TX.ed y_3) (qBQi y_3) → True ∧ (∀ (y_4 : Ex) (a0 : PX), pX (qBQi y_3) (TX.ed y_3) = Except.ok (y_4, a0) → Ex.sz (qBQ4 y_4) + (1 : Nat) ≤ (1000000000000 : Nat) ∧ (decide (qBQb y_4) = true → d0 = Except.error (b0, (2 : Int))) ∧ (decide (qBQb y_4) = false → (isW [(59 : Nat)] (Prod.fst a0) = true → d0 = Except.ok (Cls.mk c0 [] (qBQ4 y_4), List.tail (Prod.fst a0), Prod.fst (Prod.snd a0), ())) ∧ (qBQg a0 d0))) ∧ ∀ (e : Int × Int), pX (qBQi y_3) (TX.ed y_3) = Except.error e → d0 = Except.error e) ∧ (qBQc y_3 d0))) ∧ ∀ (y_3 : TX), R (true, y_3) → (TX.more y_3 = true → True ∧ (∀ (y_4 : Tst) (a0 : PX), Wl (↑(List.length (TX.ts y_3)) : Int) (TX.l y_3) (TX.ed y_3) = Except.ok (y_4, a0) → (List.length (TX.ts y_3) ≤ List.length (TX.ts y_3) ∧ qBQ6 ≤ List.length (TX.ts y_3) ∧ (List.length (TX.ts y_3) + (1 : Nat)) * (24 : Nat) ≤ (140737488355328 : Nat)) ∧ True ∧ (∀ (y_5 : Bool) (x'_2 : PX), pAcc [(97 : Nat), (110 : Nat), (100 : Nat)] (Prod.fst a0) (qBQa a0) = Except.ok (y_5, x'_2) → (qBQ5 R y_3 b0 y_5 x'_2 c0) ∨ ∃ (y_6 : TX), R (true, y_6) ∧ y_6.5 + (1 : Nat) ≤ y_3.5 ∧ true = true ∧ (qBQ9 b0 y_5 y_6) ∧ (qBQ8 x'_2 y_6) ∧ (c0 = c0 ∧ (qBQ6 = qBQ6 ∧ List.length (TX.ts y_3) + (1 : Nat) = List.length (TX.ts y_6) ∧ True) ∧ qBQ7 = qBQ7 ∧ qBQ7 = qBQ7 ∧ qBQ7 = qBQ7 ∧ qBQ7 = qBQ7 ∧ qBQ7 = qBQ7 ∧ qBQ7 = qBQ7 ∧ Value.slice none qBQ6 qBQ6 = Value.slice none qBQ6 qBQ6 ∧ True) ∧ (List.take (List.length (TX.ts y_3)) (TX.ts y_3) ++ [y_4] = TX.ts y_6 ∧ qBQ6 = qBQ6) ∧ qBQ2 ∧ True) ∧ ∀ (e : Int × Int), pAcc [(97 : Nat), (110 : Nat), (100 : Nat)] (Prod.fst a0) (qBQa a0) = Except.error e → d0 = Except.error e) ∧ ∀ (e : Int × Int), Wl (↑(List.length (TX.ts y_3)) : Int) (TX.l y_3) (TX.ed y_3) = Except.error e → d0 = Except.error e) ∧ (TX.more y_3 = false → (isW [(112 : Nat), (97 : Nat), (121 : Nat)] (TX.l y_3) = true → ∀ (b0 : Int), b0 = hdT (TX.ed y_3) (qBQi y_3) → True ∧ (∀ (y_4 : Ex) (a0 : PX), pX (qBQi y_3) (TX.ed y_3) = Except.ok (y_4, a0) → Ex.sz (qBQ4 y_4) + (1 : Nat) ≤ (1000000000000 : Nat) ∧ (decide (qBQb y_4) = true → d0 = Except.error (b0, (2 : Int))) ∧ (decide (qBQb y_4) = false → (isW [(59 : Nat)] (Prod.fst a0) = true → qBQ6 + List.length (TX.ts y_3) ≤ List.length (TX.ts y_3) ∧ d0 = Except.ok (Cls.mk c0 (List.take (List.length (TX.ts y_3)) (List.drop qBQ6 (TX.ts y_3))) (qBQ4 y_4), List.tail (Prod.fst a0), Prod.fst (Prod.snd a0), ())) ∧ (qBQg a0 d0))) ∧ ∀ (e : Int × Int), pX (qBQi y_3) (TX.ed y_3) = Except.error e → d0 = Except.error e) ∧ (qBQc y_3 d0)))
abbrev qBQd (a0 : List Cls) := (↑(List.length a0) : Int)
abbrev qBQe := (Fn.func (63 : Nat) = Fn.func (63 : Nat) ∧ True ∧ qBQ6 = qBQ6 ∧ True)
abbrev qBQf (a0 : LX) := (↑(LX.k a0) : Int)
theorem Zlv (l : List Tok) (e : Int) (bs : List Cls) (out : PR Cls)  : Zk E Fcl (vc E Fcl 400) 36 [.ptr 0 0, .psl Th.clauses bs false] (one [.psl Th.toks l false, .int false .i64 e]) 1 (mK (dA1 dCls) (n1 fun _ => rfl) dCl (fun _ => rfl) l e out) = (
 ∀ (y : Int), y = hdT e l → True ∧ (∀ (y_1 : List Nat) (x' : PX), Vu l e = Except.ok (y_1, x') → ∃ (R : LX → Prop), (∃ (x : LX), R x ∧ true = true ∧ ((bs = bs ∧ qBQh) ∧ qBQe ∧ (qBQd bs) = (qBQd bs) ∧ qBQ7 = (qBQf x) ∧ True) ∧ (qBQ3 y_1) ∧ True) ∧ ∀ (x : LX), R x → (decide ((qBQf x) < (qBQd bs)) = true → qBQ7 ≤ (qBQf x) ∧ (qBQf x) + (1 : Int) ≤ (qBQd bs) ∧ ∀ (x_1 : Cls), bs[Int.toNat (qBQf x)]? = some x_1 → ((Cls.name x_1 == y_1) = true → (decide ((qBQf x) ≥ qBQ7) = true → out = Except.error (y, (161 : Int))) ∧ (decide ((qBQf x) ≥ qBQ7) = false → True ∧ (qBQ1 x' y y_1 out) ∧ ∀ (e : Int × Int), pAcc [(119 : Nat), (104 : Nat), (101 : Nat), (110 : Nat)] (Prod.fst x') (qBQa x') = Except.error e → out = Except.error e)) ∧ ((Cls.name x_1 == y_1) = false → ∃ (x_2 : LX), R x_2 ∧ x_2.2 + (1 : Nat) ≤ x.2 ∧ true = true ∧ ((bs = bs ∧ qBQh) ∧ qBQe ∧ (qBQd bs) = (qBQd bs) ∧ wr IntKind.i64 ((qBQf x) + (1 : Int)) = (qBQf x_2) ∧ True) ∧ (qBQ3 y_1) ∧ True)) ∧ (decide ((qBQf x) < (qBQd bs)) = false → True ∧ (qBQ1 x' y y_1 out) ∧ ∀ (e : Int × Int), pAcc [(119 : Nat), (104 : Nat), (101 : Nat), (110 : Nat)] (Prod.fst x') (qBQa x') = Except.error e → out = Except.error e)) ∧ ∀ (e_1 : Int × Int), Vu l e = Except.error e_1 → out = Except.error e_1) := by kernel_rfl
theorem Zqq (bs : List Cls) (l : List Tok) (e : Int) (hl : l.length < 1000000000) (hb : bs.length ≤ 1000000000) : Wj (mI (dA1 dCls) (n1 fun _ => rfl) dCl (fun _ => rfl)) 36 (l, e, ()) (bs, ()) (Z6 bs l e) := by
 refine Vr Z6q (n := 400) (a := (bs, ())) ?_
 rw [show (dA1 dCls).enc (bs, ()) = [.psl Th.clauses bs false] from rfl, Zlv]; delta qBQ6 qBQ9 qBQ4 qBQc qBQ7 qBQh qBQ8 qBQb qBQ3 qBQi qBQ2 qBQ5 qBQa qBQg qBQ1 qBQd qBQe qBQf
 intro y0 hy0
 subst hy0
 refine ⟨trivial, fun nm x h1 => ?_, fun er h1 => by simp [Z6, h1]⟩
 have hx := Zbj h1
 refine ⟨fun z => z.k ≤ bs.length ∧ (bs.drop z.k).any (fun b => b.name == nm) = bs.any (fun b => b.name == nm) ∧ z.r = bs.length - z.k, ⟨⟨0, bs.length, [], 0⟩, ⟨(by dsimp only; omega), rfl, rfl⟩, by simp⟩, ?_⟩
 rintro z ⟨hk, hv, hr⟩
 refine ⟨fun hq => ?_, fun hq => ⟨trivial, fun more x1 h2 => ?_, fun er h2 => by cases h2⟩⟩
 · have hq : (z.k : Int) < bs.length := by simpa using hq
   refine ⟨by omega, by omega, fun c hc => ?_⟩
   have hc : bs[z.k]? = some c := hc
   have hlt := (List.getElem?_eq_some_iff.1 hc).1
   have hce : bs[z.k] = c := (List.getElem?_eq_some_iff.1 hc).2
   rw [List.drop_eq_getElem_cons hlt, hce, List.any_cons] at hv
   refine ⟨fun hn => ⟨fun _ => ?_, fun hneg => absurd hneg (by rw [decide_eq_false_iff_not]; omega)⟩, fun hn => ?_⟩
   · rw [hn, Bool.true_or] at hv
     simp [Z6, h1, ← hv]
   · rw [hn, Bool.false_or] at hv
     exact ⟨⟨z.k + 1, bs.length - (z.k + 1), [], 0⟩, ⟨(by dsimp only; omega), hv, rfl⟩, (by show bs.length - (z.k + 1) + 1 ≤ z.r; omega), rfl, ⟨⟨rfl, fun h => h⟩, ⟨rfl, trivial, rfl, trivial⟩, rfl, wr64 (by omega) (by omega), trivial⟩, ⟨rfl, rfl, rfl, rfl, rfl, rfl, rfl, rfl, rfl, trivial⟩, trivial⟩
 · have hq : ¬ (z.k : Int) < bs.length := by simpa using hq
   rw [List.drop_eq_nil_of_le (by omega), List.any_nil] at hv
   unfold pAcc at h2
   injection h2 with h2
   injection h2 with e1 e2
   subst e1; subst e2
   have hout : Z6 bs l e = pAft nm (pTs 10 (isW [119, 104, 101, 110] x.1) [] (if isW [119, 104, 101, 110] x.1 then x.1.tail else x.1) x.2.1) := by simp [Z6, h1, ← hv]
   rw [hout]
   clear hv hk hr hq
   have hif := Zuj (s := [119, 104, 101, 110]) (l := x.1)
   generalize hO : pAft nm (pTs 10 (isW [119, 104, 101, 110] x.1) [] (if isW [119, 104, 101, 110] x.1 then x.1.tail else x.1) x.2.1) = OUT at hout ⊢
   refine ⟨fun p => pAft nm (pTs p.2.k p.2.more p.2.ts p.2.l p.2.ed) = OUT ∧ p.2.ts.length + p.2.k = 10 ∧ p.2.ts.length ≤ 8 ∧ p.2.l.length < 1000000000 ∧ (p.1 = false → p.2.ts = []), .inl ⟨⟨[], if isW [119, 104, 101, 110] x.1 then x.1.tail else x.1, x.2.1, isW [119, 104, 101, 110] x.1, 10⟩, ⟨hO, rfl, Nat.zero_le _, (by dsimp only; omega), fun _ => rfl⟩, by simp⟩, ?_, ?_⟩
   · rintro ⟨ts, l1, ed, more, k⟩ ⟨hR, hk, h8, hl1, hts⟩
     have hts : ts = [] := hts rfl
     subst hts
     have hk : k = 10 := by simpa using hk
     subst hk
     have hR : pAft nm (pTs 10 more [] l1 ed) = OUT := hR
     have hl1' : l1.length < 1000000000 := hl1
     clear hl1
     have hl1 := hl1'
     clear hl1'
     rw [← hR]
     clear hR hout hO
     refine ⟨fun hm => ⟨trivial, fun t x2 h3 => ⟨trivial, fun m2 x3 h4 => ?_, fun er h4 => by cases h4⟩, fun er h3 => ?_⟩, fun hm => ?_⟩
     · have hm' : more = true := hm
       have h3' : Wl 0 l1 ed = .ok (t, x2) := h3
       clear hm h3
       subst hm'
       unfold pAcc at h4
       injection h4 with h4
       injection h4 with e1 e2
       subst e1; subst e2
       have hq := Zeb h3'
       have hi2 := Zuj (s := [97, 110, 100]) (l := x2.1)
       refine .inr ⟨⟨[t], if isW [97, 110, 100] x2.1 then x2.1.tail else x2.1, x2.2.1, isW [97, 110, 100] x2.1, 9⟩, ⟨by simp [pTs, h3'], rfl, (by show 1 ≤ 8; omega), (by dsimp only; omega), fun h => by cases h⟩, Nat.le_refl _, by simp⟩
     · have hm' : more = true := hm
       have h3' : Wl 0 l1 ed = .error er := h3
       clear hm h3
       subst hm'
       simp [pTs, pAft, h3']
     · have hm' : more = false := hm
       clear hm
       subst hm'
       revert hl1
       dsimp only
       intro hl1
       refine ⟨fun w y hy => ⟨trivial, fun ex x4 h5 => ?_, fun er h5 => by simp [pTs, pAft, pPay, w, h5]⟩, fun w => by simp [pTs, pAft, pPay, w]⟩
       subst hy
       have hs := Zni _ _ _ _ h5
       have hw := Zr w
       rw [Ex.eta]
       refine ⟨by omega, fun hn => ?_, fun hn => ⟨fun w2 => ?_, fun w2 => ?_⟩⟩
       · have hn : (24 : Int) < Zw ex := by simpa using hn
         have hn : 24 < Zw ex := by omega
         simp [pTs, pAft, pPay, w, h5, hn]
       · have hn : (Zw ex : Int) ≤ 24 := by simpa using hn
         have hn : ¬ 24 < Zw ex := by omega
         simp [pTs, pAft, pPay, w, h5, hn, w2]
       · have hn : (Zw ex : Int) ≤ 24 := by simpa using hn
         have hn : ¬ 24 < Zw ex := by omega
         simp [pTs, pAft, pPay, w, h5, hn, w2]
   · rintro ⟨ts, l1, ed, more, k⟩ ⟨hR, hk, h8, hl1, _⟩
     have hk : ts.length + k = 10 := hk
     have h8 : ts.length ≤ 8 := h8
     have hR : pAft nm (pTs k more ts l1 ed) = OUT := hR
     have hl1' : l1.length < 1000000000 := hl1
     clear hl1
     have hl1 := hl1'
     clear hl1'
     rw [← hR]
     clear hR hout hO
     obtain ⟨k, rfl⟩ : ∃ k', k = k' + 1 := ⟨k - 1, by omega⟩
     refine ⟨fun hm => ⟨trivial, fun t x2 h3 => ⟨⟨Nat.le_refl _, Nat.zero_le _, (by dsimp only; omega)⟩, trivial, fun m2 x3 h4 => ?_, fun er h4 => by cases h4⟩, fun er h3 => ?_⟩, fun hm => ?_⟩
     · have hm' : more = true := hm
       have h3' : Wl ts.length l1 ed = .ok (t, x2) := h3
       clear hm h3
       subst hm'
       unfold pAcc at h4
       injection h4 with h4
       injection h4 with e1 e2
       subst e1; subst e2
       have hq := Zeb h3'
       have hi2 := Zuj (s := [97, 110, 100]) (l := x2.1)
       refine .inr ⟨⟨ts ++ [t], if isW [97, 110, 100] x2.1 then x2.1.tail else x2.1, x2.2.1, isW [97, 110, 100] x2.1, k⟩, ⟨by simp [pTs, h3'], (by simp; omega), (by simp; omega), (by dsimp only; omega), fun h => by cases h⟩, Nat.le_refl _, by simp⟩
     · have hm' : more = true := hm
       have h3' : Wl ts.length l1 ed = .error er := h3
       clear hm h3
       subst hm'
       simp [pTs, pAft, h3']
     · have hm' : more = false := hm
       clear hm
       subst hm'
       revert hl1
       dsimp only
       intro hl1
       refine ⟨fun w y hy => ⟨trivial, fun ex x4 h5 => ?_, fun er h5 => by simp [pTs, pAft, pPay, w, h5]⟩, fun w => by simp [pTs, pAft, pPay, w]⟩
       subst hy
       have hs := Zni _ _ _ _ h5
       have hw := Zr w
       rw [Ex.eta]
       refine ⟨by omega, fun hn => ?_, fun hn => ⟨fun w2 => ?_, fun w2 => ?_⟩⟩
       · have hn : (24 : Int) < Zw ex := by simpa using hn
         have hn : 24 < Zw ex := by omega
         simp [pTs, pAft, pPay, w, h5, hn]
       · have hn : (Zw ex : Int) ≤ 24 := by simpa using hn
         have hn : ¬ 24 < Zw ex := by omega
         exact ⟨by omega, by simp [pTs, pAft, pPay, w, h5, hn, w2]⟩
       · have hn : (Zw ex : Int) ≤ 24 := by simpa using hn
         have hn : ¬ 24 < Zw ex := by omega
         simp [pTs, pAft, pPay, w, h5, hn, w2]
end
section
open Go
def isL (n : Int) : Bool := decide (97 ≤ n) && decide (n ≤ 122)
def isD (n : Int) : Bool := decide (48 ≤ n) && decide (n ≤ 57)
def isLD (n : Int) : Bool := isL n || isD n
noncomputable def dU8 : Dc E Int := dInt .u8
theorem Zlo (n : Int) (v : Bool) : Zk E F0 (vc E F0 400) 94 [.int false .u8 n] hp0 0 (fun r => ret E (patch hp0 0 r) r.v (.bool false v)) = (
(decide ((97 : Int) ≤ n) = true → (decide (n ≤ (122 : Int)) = true → true = v) ∧ (decide (n ≤ (122 : Int)) = false → false = v)) ∧ (decide ((97 : Int) ≤ n) = false → false = v)) := by kernel_rfl
theorem Zlp (n : Int) : PureC E 94 [.int false .u8 n] (.bool false (isL n)) := by
 refine Za E_ok (Zg E_ok F0_ok 400) ?_
 rw [Zlo]
 unfold isL
 refine ⟨fun h => ⟨fun h2 => ?_, fun h2 => ?_⟩, fun h => ?_⟩
 · rw [h, h2]; rfl
 · rw [h, h2]; rfl
 · rw [h]; rfl
theorem Zqg (n : Int) (v : Bool) : Zk E F0 (vc E F0 400) 97 [.int false .u8 n] hp0 0 (fun r => ret E (patch hp0 0 r) r.v (.bool false v)) = (
(decide ((48 : Int) ≤ n) = true → (decide (n ≤ (57 : Int)) = true → true = v) ∧ (decide (n ≤ (57 : Int)) = false → false = v)) ∧ (decide ((48 : Int) ≤ n) = false → false = v)) := by kernel_rfl
theorem Zqh (n : Int) : PureC E 97 [.int false .u8 n] (.bool false (isD n)) := by
 refine Za E_ok (Zg E_ok F0_ok 400) ?_
 rw [Zqg]
 unfold isD
 refine ⟨fun h => ⟨fun h2 => ?_, fun h2 => ?_⟩, fun h => ?_⟩
 · rw [h, h2]; rfl
 · rw [h, h2]; rfl
 · rw [h]; rfl
noncomputable def Zt9 : Sum thy := sumP (dA1 dU8) (fun _ => True) fun x => .bool false (isL x.1)
noncomputable def Z07 : Sum thy := sumP (dA1 dU8) (fun _ => True) fun x => .bool false (isD x.1)
theorem Zqi : SumOk E 94 Zt9 := Yh E_ok (Zc (f := 94) rfl) fun x _ => Zlp x.1
theorem Zua : SumOk E 97 Z07 := Yh E_ok (Zc (f := 97) rfl) fun x _ => Zqh x.1
noncomputable def Flx : Fns thy := addS (addS F0 94 Zt9) 97 Z07
theorem Zub : FnsOk E Flx := Zb (Zb F0_ok Zqi) Zua
theorem Zuc (n : Int) (v : Bool) : Zk E Flx (vc E Flx 400) 96 [.int false .u8 n] hp0 0 (fun r => ret E (patch hp0 0 r) r.v (.bool false v)) = (
True ∧ (isL n = true → true = v) ∧ (isL n = false → True ∧ isD n = v)) := by kernel_rfl
theorem Zud (n : Int) : PureC E 96 [.int false .u8 n] (.bool false (isLD n)) := by
 refine Za E_ok (Zg E_ok Zub 400) ?_
 rw [Zuc]
 unfold isLD
 refine ⟨trivial, fun h => ?_, fun h => ⟨trivial, ?_⟩⟩
 · rw [h]; rfl
 · rw [h]; rfl
noncomputable def Z6m : Sum thy := sumP (dA1 dU8) (fun _ => True) fun x => .bool false (isLD x.1)
theorem Zyi : SumOk E 96 Z6m := Yh E_ok (Zc (f := 96) rfl) fun x _ => Zud x.1
def Asp : Fr thy → Hp thy → Nat → Ann thy := fun T h i => { X := LX, fr := fun x => [(0, T 0), (1, T 1), (7, T 7), (8, .int false .i64 x.k)], bl := fun x => [], src := fun _ => [], md := [], ih := i, M := i + 30, meas := fun x => x.r }
noncomputable def Zue : Fns thy := addL (addS Flx 96 Z6m) 95 2 Asp E
theorem Zn8 : FnsOk E Zue := Zv E_ok (Zb Zub Zyi) _ _ _
def spn (f : Int → Bool) : List Nat → Nat
 | [] => 0
 | c :: r => if f c then spn f r + 1 else 0
theorem Zc4 {f : Int → Bool} {s : List Nat} {k c : Nat} (h : s[k]? = some c) : spn f (s.drop k) = if f c then spn f (s.drop (k + 1)) + 1 else 0 := by
 have hlt := (List.getElem?_eq_some_iff.1 h).1
 have hc : s[k] = c := (List.getElem?_eq_some_iff.1 h).2
 rw [List.drop_eq_getElem_cons hlt, hc]; rfl
theorem Zjr {f : Int → Bool} : ∀ {s : List Nat}, spn f s ≤ s.length
 | [] => Nat.le_refl _
 | c :: r => by
  unfold spn
  have := Zjr (f := f) (s := r)
  split
  · simp; omega
  · exact Nat.zero_le _
theorem Zqj (s : List Nat) (v : Int) : Zk E Zue (vc E Zue 400) 95 [.str false s, .fn (.func 96) [] []] hp0 0 (fun r => ret E (patch hp0 0 r) r.v (.int false .i64 v)) = (
∃ (R : LX → Prop), (∃ (x : LX), R x ∧ true = true ∧ (s = s ∧ (Fn.func (96 : FuncId) = Fn.func (96 : FuncId) ∧ True ∧ True) ∧ (↑(List.length s) : Int) = (↑(List.length s) : Int) ∧ (0 : Int) = (↑(LX.k x) : Int) ∧ True) ∧ True) ∧ ∀ (x : LX), R x → (decide ((↑(LX.k x) : Int) < (↑(List.length s) : Int)) = true → (0 : Int) ≤ (↑(LX.k x) : Int) ∧ (↑(LX.k x) : Int) + (1 : Int) ≤ (↑(List.length s) : Int) ∧ ∀ (x_1 : Nat), s[Int.toNat (↑(LX.k x) : Int)]? = some x_1 → True ∧ ((!isLD (↑x_1 : Int)) = true → (↑(LX.k x) : Int) = v) ∧ ((!isLD (↑x_1 : Int)) = false → ∃ (x_2 : LX), R x_2 ∧ x_2.2 + (1 : Nat) ≤ x.2 ∧ true = true ∧ (s = s ∧ (Fn.func (96 : FuncId) = Fn.func (96 : FuncId) ∧ True ∧ True) ∧ (↑(List.length s) : Int) = (↑(List.length s) : Int) ∧ wr IntKind.i64 ((↑(LX.k x) : Int) + (1 : Int)) = (↑(LX.k x_2) : Int) ∧ True) ∧ True)) ∧ (decide ((↑(LX.k x) : Int) < (↑(List.length s) : Int)) = false → (↑(List.length s) : Int) = v)) := by kernel_rfl
theorem Zqk (s : List Nat) (hs : s.length ≤ 1000000000) : PureC E 95 [.str false s, .fn (.func 96) [] []] (.int false .i64 (spn isLD s)) := by
 refine Za E_ok (Zg E_ok Zn8 400) ?_
 rw [Zqj]
 refine ⟨fun x => x.k ≤ s.length ∧ x.k + spn isLD (s.drop x.k) = spn isLD s ∧ x.r = s.length - x.k, ⟨⟨0, s.length, [], 0⟩, ⟨(by dsimp only; omega), by simp, rfl⟩, by simp⟩, ?_⟩
 rintro x ⟨hk, hv, hr⟩
 refine ⟨fun hq => ?_, fun hq => ?_⟩
 · have hq : (x.k : Int) < s.length := by simpa using hq
   refine ⟨by omega, by omega, fun c hc => ⟨trivial, fun hn => ?_, fun hn => ?_⟩⟩
   · have hc : s[x.k]? = some c := hc
     rw [Zc4 hc] at hv
     have hn : isLD c = false := by simpa using hn
     rw [hn] at hv
     simp at hv
     rw [← hv]
   · have hc : s[x.k]? = some c := hc
     rw [Zc4 hc] at hv
     have hn : isLD c = true := by simpa using hn
     rw [hn, if_pos rfl] at hv
     exact ⟨⟨x.k + 1, s.length - (x.k + 1), [], 0⟩, ⟨(by dsimp only; omega), (by dsimp only; omega), rfl⟩, (by show s.length - (x.k + 1) + 1 ≤ x.r; omega), rfl, ⟨rfl, ⟨rfl, trivial, trivial⟩, rfl, wr64 (by omega) (by omega), trivial⟩, trivial⟩
 · have hq : ¬ (x.k : Int) < s.length := by simpa using hq
   rw [List.drop_eq_nil_of_le (by omega)] at hv
   have : x.k = spn isLD s := by simpa [spn] using hv
   omega
theorem Zql (s : List Nat) (v : Int) : Zk E Zue (vc E Zue 400) 95 [.str false s, .fn (.func 97) [] []] hp0 0 (fun r => ret E (patch hp0 0 r) r.v (.int false .i64 v)) = (
∃ (R : LX → Prop), (∃ (x : LX), R x ∧ true = true ∧ (s = s ∧ (Fn.func (97 : FuncId) = Fn.func (97 : FuncId) ∧ True ∧ True) ∧ (↑(List.length s) : Int) = (↑(List.length s) : Int) ∧ (0 : Int) = (↑(LX.k x) : Int) ∧ True) ∧ True) ∧ ∀ (x : LX), R x → (decide ((↑(LX.k x) : Int) < (↑(List.length s) : Int)) = true → (0 : Int) ≤ (↑(LX.k x) : Int) ∧ (↑(LX.k x) : Int) + (1 : Int) ≤ (↑(List.length s) : Int) ∧ ∀ (x_1 : Nat), s[Int.toNat (↑(LX.k x) : Int)]? = some x_1 → True ∧ ((!isD (↑x_1 : Int)) = true → (↑(LX.k x) : Int) = v) ∧ ((!isD (↑x_1 : Int)) = false → ∃ (x_2 : LX), R x_2 ∧ x_2.2 + (1 : Nat) ≤ x.2 ∧ true = true ∧ (s = s ∧ (Fn.func (97 : FuncId) = Fn.func (97 : FuncId) ∧ True ∧ True) ∧ (↑(List.length s) : Int) = (↑(List.length s) : Int) ∧ wr IntKind.i64 ((↑(LX.k x) : Int) + (1 : Int)) = (↑(LX.k x_2) : Int) ∧ True) ∧ True)) ∧ (decide ((↑(LX.k x) : Int) < (↑(List.length s) : Int)) = false → (↑(List.length s) : Int) = v)) := by kernel_rfl
theorem Zqm (s : List Nat) (hs : s.length ≤ 1000000000) : PureC E 95 [.str false s, .fn (.func 97) [] []] (.int false .i64 (spn isD s)) := by
 refine Za E_ok (Zg E_ok Zn8 400) ?_
 rw [Zql]
 refine ⟨fun x => x.k ≤ s.length ∧ x.k + spn isD (s.drop x.k) = spn isD s ∧ x.r = s.length - x.k, ⟨⟨0, s.length, [], 0⟩, ⟨(by dsimp only; omega), by simp, rfl⟩, by simp⟩, ?_⟩
 rintro x ⟨hk, hv, hr⟩
 refine ⟨fun hq => ?_, fun hq => ?_⟩
 · have hq : (x.k : Int) < s.length := by simpa using hq
   refine ⟨by omega, by omega, fun c hc => ⟨trivial, fun hn => ?_, fun hn => ?_⟩⟩
   · have hc : s[x.k]? = some c := hc
     rw [Zc4 hc] at hv
     have hn : isD c = false := by simpa using hn
     rw [hn] at hv
     simp at hv
     rw [← hv]
   · have hc : s[x.k]? = some c := hc
     rw [Zc4 hc] at hv
     have hn : isD c = true := by simpa using hn
     rw [hn, if_pos rfl] at hv
     exact ⟨⟨x.k + 1, s.length - (x.k + 1), [], 0⟩, ⟨(by dsimp only; omega), (by dsimp only; omega), rfl⟩, (by show s.length - (x.k + 1) + 1 ≤ x.r; omega), rfl, ⟨rfl, ⟨rfl, trivial, trivial⟩, rfl, wr64 (by omega) (by omega), trivial⟩, trivial⟩
 · have hq : ¬ (x.k : Int) < s.length := by simpa using hq
   rw [List.drop_eq_nil_of_le (by omega)] at hv
   have : x.k = spn isD s := by simpa [spn] using hv
   omega
def Anu : Fr thy → Hp thy → Nat → Ann thy := fun T h i => { X := LX, fr := fun x => [(0, T 0), (4, .int false .i64 x.m), (15, T 15), (16, .int false .i64 x.k)], bl := fun x => [], src := fun _ => [], md := [], ih := i, M := i + 30, meas := fun x => x.r }
noncomputable def Fnum : Fns thy := addL F0 98 5 Anu E
theorem Z3e : FnsOk E Fnum := Zv E_ok F0_ok _ _ _
def numL (n : Int) : List Nat → Int × Int
 | [] => (n, 0)
 | c :: r => if 10 * n + (c - 48) > 1099511627776 then (0, 2) else numL (10 * n + (c - 48)) r
def numb (s : List Nat) : Int × Int := if 1 < s.length ∧ s.head? = some 48 then (0, 150) else numL 0 s
theorem Zuf {n : Int} {s : List Nat} {k c : Nat} (h : s[k]? = some c) : numL n (s.drop k) = if 10 * n + (c - 48) > 1099511627776 then (0, 2) else numL (10 * n + (c - 48)) (s.drop (k + 1)) := by
 have hlt := (List.getElem?_eq_some_iff.1 h).1
 have hc : s[k] = c := (List.getElem?_eq_some_iff.1 h).2
 rw [List.drop_eq_getElem_cons hlt, hc]; rfl
abbrev qBR1 (a0 : LX) (b0 : Nat) := (wr IntKind.i64 ((10 : Int) * LX.m a0) + wr IntKind.i64 (wr IntKind.u8 ((↑b0 : Int) - (48 : Int))))
abbrev qBR2 (a0 : List Nat) := (↑(List.length a0) : Int)
abbrev qBR3 (a0 : LX) := (↑(LX.k a0) : Int)
abbrev qBR4 := (0 : Int)
theorem Zlq (s : List Nat) (v e : Int) : Zk E Fnum (vc E Fnum 400) 98 [.str false s] hp0 0 (fun r => ret E (patch hp0 0 r) r.v (.tup [.int false .i64 v, .int false .i64 e])) = (
 ∃ (Q : Bool → Prop), ((decide ((qBR2 s) > (1 : Int)) = true → qBR4 ≤ qBR4 ∧ qBR4 + (1 : Int) ≤ (qBR2 s) ∧ ∀ (x : Nat), s[Int.toNat qBR4]? = some x → (((↑x : Int) == (48 : Int)) = true → Q true) ∧ (((↑x : Int) == (48 : Int)) = false → Q false)) ∧ (decide ((qBR2 s) > (1 : Int)) = false → Q false)) ∧ (Q true → qBR4 = v ∧ (150 : Int) = e ∧ True) ∧ (Q false → ∃ (R : LX → Prop), (∃ (x : LX), R x ∧ true = true ∧ (s = s ∧ qBR4 = LX.m x ∧ (qBR2 s) = (qBR2 s) ∧ qBR4 = (qBR3 x) ∧ True) ∧ True) ∧ ∀ (x : LX), R x → (decide ((qBR3 x) < (qBR2 s)) = true → qBR4 ≤ (qBR3 x) ∧ (qBR3 x) + (1 : Int) ≤ (qBR2 s) ∧ ∀ (x_1 : Nat), s[Int.toNat (qBR3 x)]? = some x_1 → (decide (wr IntKind.i64 (qBR1 x x_1) > (1099511627776 : Int)) = true → qBR4 = v ∧ (2 : Int) = e ∧ True) ∧ (decide (wr IntKind.i64 (qBR1 x x_1) > (1099511627776 : Int)) = false → ∃ (x_2 : LX), R x_2 ∧ x_2.2 + (1 : Nat) ≤ x.2 ∧ true = true ∧ (s = s ∧ wr IntKind.i64 (qBR1 x x_1) = LX.m x_2 ∧ (qBR2 s) = (qBR2 s) ∧ wr IntKind.i64 ((qBR3 x) + (1 : Int)) = (qBR3 x_2) ∧ True) ∧ True)) ∧ (decide ((qBR3 x) < (qBR2 s)) = false → LX.m x = v ∧ qBR4 = e ∧ True))) := by kernel_rfl
theorem Zlr (s : List Nat) (hs : s.length ≤ 1000000000) (hd : ∀ c ∈ s, 48 ≤ c ∧ c ≤ 57) : PureC E 98 [.str false s] (.tup [.int false .i64 (numb s).1, .int false .i64 (numb s).2]) := by
  refine Za E_ok (Zg E_ok Z3e 400) ?_
  rw [Zlq]; delta qBR1 qBR2 qBR3 qBR4
  refine ⟨fun b => b = decide (1 < s.length ∧ s.head? = some 48), ⟨fun h => ?_, fun h => ?_⟩, fun h => ?_, fun h => ?_⟩
  · have h : (1 : Int) < s.length := by simpa using h
    refine ⟨Int.le_refl 0, by omega, fun x hx => ?_⟩
    have hx : s[0]? = some x := hx
    rw [List.head?_eq_getElem?, hx]
    refine ⟨fun h2 => ?_, fun h2 => ?_⟩
    · have h2 : x = 48 := by have : (x : Int) = 48 := by simpa using h2
                             omega
      simp [h2]; omega
    · have h2 : x ≠ 48 := by
        intro e
        subst e
        simp at h2
      simp [h2]
  · have h : ¬ (1 : Int) < s.length := by simpa using h
    have : ¬ 1 < s.length := by omega
    simp [this]
  · have h := (decide_eq_true_iff.1 h.symm)
    unfold numb
    rw [if_pos h]
    exact ⟨rfl, rfl, trivial⟩
  · have h := (decide_eq_false_iff_not.1 h.symm)
    have hn : numb s = numL 0 s := by unfold numb; rw [if_neg h]
    rw [hn]
    refine ⟨fun x => x.k ≤ s.length ∧ numL x.m (s.drop x.k) = numL 0 s ∧ 0 ≤ x.m ∧ x.m ≤ 1099511627776 ∧ x.r = s.length - x.k, ⟨⟨0, s.length, [], 0⟩, ⟨(by dsimp only; omega), rfl, Int.le_refl 0, (by show (0:Int) ≤ 1099511627776; omega), rfl⟩, by simp⟩, ?_⟩
    rintro x ⟨hk, hv, hm0, hm1, hr⟩
    refine ⟨fun hq => ?_, fun hq => ?_⟩
    · have hq : (x.k : Int) < s.length := by simpa using hq
      refine ⟨by omega, by omega, fun c hc => ?_⟩
      have hc : s[x.k]? = some c := hc
      have hcd := hd c (List.mem_of_getElem? hc)
      have w0 : wr .u8 ((c : Int) - 48) = c - 48 := by simp only [wr, IntKind.wrap_u8]; omega
      have w1 : wr .i64 (10 * x.m) = 10 * x.m := wr64 (by omega) (by omega)
      have w2 : wr .i64 ((c : Int) - 48) = c - 48 := wr64 (by omega) (by omega)
      have w3 : wr .i64 (10 * x.m + ((c : Int) - 48)) = 10 * x.m + (c - 48) := wr64 (by omega) (by omega)
      rw [w0, w1, w2, w3]
      rw [Zuf hc] at hv
      refine ⟨fun h2 => ?_, fun h2 => ?_⟩
      · have h2 : 10 * x.m + ((c : Int) - 48) > 1099511627776 := by simpa using h2
        rw [if_pos h2] at hv
        rw [← hv]
        exact ⟨rfl, rfl, trivial⟩
      · have h2 : ¬ 10 * x.m + ((c : Int) - 48) > 1099511627776 := by simpa using h2
        rw [if_neg h2] at hv
        exact ⟨⟨x.k + 1, s.length - (x.k + 1), [], 10 * x.m + (c - 48)⟩, ⟨(by dsimp only; omega), hv, (by dsimp only; omega), (by dsimp only; omega), rfl⟩, (by show s.length - (x.k + 1) + 1 ≤ x.r; omega), rfl, ⟨rfl, rfl, rfl, wr64 (by omega) (by omega), trivial⟩, trivial⟩
    · have hq : ¬ (x.k : Int) < s.length := by simpa using hq
      rw [List.drop_eq_nil_of_le (by omega)] at hv
      rw [← hv]
      exact ⟨rfl, rfl, trivial⟩
noncomputable def dSF : Dc E Bool where
 dec v := match v with | .fn (.func f) [] [] => (match Nat.beq f 96 with | true => some true | false => (match Nat.beq f 97 with | true => some false | false => none)) | _ => none
 enc b := .fn (.func (bif b then 96 else 97)) [] []
 ok v a h := by
  split at h
  · rename_i f
    split at h
    · rename_i e
      cases h
      have e := Nat.eq_of_beq_eq_true e
      cases e
      exact ⟨rfl, rfl, fun σ g u hd => hd⟩
    · split at h
      · rename_i e
        cases h
        have e := Nat.eq_of_beq_eq_true e
        cases e
        exact ⟨rfl, rfl, fun σ g u hd => hd⟩
      · cases h
  · cases h
def spF (b : Bool) (s : List Nat) : Nat := bif b then spn isLD s else spn isD s
noncomputable def Z6n : Sum thy := Vo (DcL.cons dS (DcL.cons dSF DcL.nil)) (fun x => x.1.length ≤ 1000000000) (fun x => spF x.2.1 x.1) fun (y : Nat) => .int false .i64 y
theorem Zyj : SumOk E 95 Z6n := Z3 E_ok (Zc (f := 95) rfl) fun x h => by
 obtain ⟨s, b, _⟩ := x
 cases b with
 | true => exact Zqk s h
 | false => exact Zqm s h
noncomputable def Zug : Sum thy := Vo (dA1 dS) (fun x => x.1.length ≤ 1000000000 ∧ ∀ c ∈ x.1, 48 ≤ c ∧ c ≤ 57) (fun x => numb x.1) fun y => .tup [.int false .i64 y.1, .int false .i64 y.2]
theorem Zqn : SumOk E 98 Zug := Z3 E_ok (Zc (f := 98) rfl) fun x h => Zlr x.1 h.1 h.2
noncomputable def Ftok : Fns thy := addS (addS Flx 95 Z6n) 98 Zug
theorem Z3f : FnsOk E Ftok := Zb (Zb Zub Zyj) Zqn
def tokV (t : Tok) : SV thy := .agg [.int false .i64 t.kind, .str false t.text, .int false .i64 t.n, .int false .i64 t.at_]
abbrev qBRa := (0 : Int)
abbrev qBR5 (a0 : Tok) := (qBRa = Tok.kind a0 ∧ [] = Tok.text a0 ∧ qBRa = Tok.n a0 ∧ qBRa = Tok.at_ a0 ∧ True)
abbrev qBRb (a0 : List Nat) := (↑(List.length a0) : Int)
abbrev qBR9 (a0 : List Nat) := ((qBRb a0) ≥ (1 : Int))
abbrev qBRc := (150 : Int)
abbrev qBR6 (a0 : List Nat) (b0 : Tok) (c0 : Int) := (decide (qBR9 a0) = false → (qBR5 b0) ∧ qBRc = c0 ∧ True)
abbrev qBR7 (a0 : List Nat) := (qBRa ≤ (1 : Int) ∧ (1 : Int) ≤ (qBRb a0))
abbrev qBR8 := (Int.toNat (1 : Int))
abbrev qBRf (a0 : Nat) := (↑a0 : Int)
abbrev qBRd (a0 : Nat) := (Int.toNat (qBRf a0))
abbrev qBRe := (3 : Int)
theorem Zqo (s : List Nat) (t : Tok) (e : Int) : Zk E Ftok (vc E Ftok 400) 59 [.str false s] hp0 0 (fun r => ret E (patch hp0 0 r) r.v (.tup [tokV t, .int false .i64 e])) = (
 qBRa ≤ qBRa ∧ qBRa + (1 : Int) ≤ (qBRb s) ∧ ∀ (x : Nat), s[Int.toNat qBRa]? = some x → True ∧ (isL (qBRf x) = true → List.length s ≤ (1000000000 : Nat) ∧ ∀ (y : Nat), y = spF true s → (qBRa ≤ (qBRf y) ∧ (qBRf y) ≤ (qBRb s)) ∧ (decide ((↑(List.length (List.take (qBRd y) s)) : Int) > (32 : Int)) = true → (qBR5 t) ∧ (2 : Int) = e ∧ True) ∧ (decide ((↑(List.length (List.take (qBRd y) s)) : Int) > (32 : Int)) = false → ((1 : Int) = Tok.kind t ∧ List.take (qBRd y) s = Tok.text t ∧ qBRa = Tok.n t ∧ qBRa = Tok.at_ t ∧ True) ∧ qBRa = e ∧ True)) ∧ (isL (qBRf x) = false → True ∧ (isD (qBRf x) = true → List.length s ≤ (1000000000 : Nat) ∧ ∀ (y : Nat), y = spF false s → (qBRa ≤ (qBRf y) ∧ (qBRf y) ≤ (qBRb s)) ∧ (List.length (List.take (qBRd y) s) ≤ (1000000000 : Nat) ∧ ∀ (c : Nat), c ∈ List.take (qBRd y) s → (48 : Nat) ≤ c ∧ c ≤ (57 : Nat)) ∧ ∀ (y_1 : Int × Int), y_1 = numb (List.take (qBRd y) s) → ((2 : Int) = Tok.kind t ∧ List.take (qBRd y) s = Tok.text t ∧ Prod.fst y_1 = Tok.n t ∧ qBRa = Tok.at_ t ∧ True) ∧ Prod.snd y_1 = e ∧ True) ∧ (isD (qBRf x) = false → qBRa ≤ qBRa ∧ qBRa + (1 : Int) ≤ (qBRb s) ∧ ∀ (x : Nat), s[Int.toNat qBRa]? = some x → (((qBRf x) == (↑(123 : Nat) : Int)) = true → (decide (qBR9 s) = true → (qBR7 s) ∧ ((List.take qBR8 s == [(123 : Nat)]) = true → (qBRe = Tok.kind t ∧ [(123 : Nat)] = Tok.text t ∧ qBRa = Tok.n t ∧ qBRa = Tok.at_ t ∧ True) ∧ qBRa = e ∧ True) ∧ ((List.take qBR8 s == [(123 : Nat)]) = false → (qBR5 t) ∧ qBRc = e ∧ True)) ∧ (qBR6 s t e)) ∧ (((qBRf x) == (↑(123 : Nat) : Int)) = false → (((qBRf x) == (↑(125 : Nat) : Int)) = true → (decide (qBR9 s) = true → (qBR7 s) ∧ ((List.take qBR8 s == [(125 : Nat)]) = true → (qBRe = Tok.kind t ∧ [(125 : Nat)] = Tok.text t ∧ qBRa = Tok.n t ∧ qBRa = Tok.at_ t ∧ True) ∧ qBRa = e ∧ True) ∧ ((List.take qBR8 s == [(125 : Nat)]) = false → (qBR5 t) ∧ qBRc = e ∧ True)) ∧ (qBR6 s t e)) ∧ (((qBRf x) == (↑(125 : Nat) : Int)) = false → (((qBRf x) == (↑(40 : Nat) : Int)) = true → (decide (qBR9 s) = true → (qBR7 s) ∧ ((List.take qBR8 s == [(40 : Nat)]) = true → (qBRe = Tok.kind t ∧ [(40 : Nat)] = Tok.text t ∧ qBRa = Tok.n t ∧ qBRa = Tok.at_ t ∧ True) ∧ qBRa = e ∧ True) ∧ ((List.take qBR8 s == [(40 : Nat)]) = false → (qBR5 t) ∧ qBRc = e ∧ True)) ∧ (qBR6 s t e)) ∧ (((qBRf x) == (↑(40 : Nat) : Int)) = false → (((qBRf x) == (↑(41 : Nat) : Int)) = true → (decide (qBR9 s) = true → (qBR7 s) ∧ ((List.take qBR8 s == [(41 : Nat)]) = true → (qBRe = Tok.kind t ∧ [(41 : Nat)] = Tok.text t ∧ qBRa = Tok.n t ∧ qBRa = Tok.at_ t ∧ True) ∧ qBRa = e ∧ True) ∧ ((List.take qBR8 s == [(41 : Nat)]) = false → (qBR5 t) ∧ qBRc = e ∧ True)) ∧ (qBR6 s t e)) ∧ (((qBRf x) == (↑(41 : Nat) : Int)) = false → (((qBRf x) == (↑(59 : Nat) : Int)) = true → (decide (qBR9 s) = true → (qBR7 s) ∧ ((List.take qBR8 s == [(59 : Nat)]) = true → (qBRe = Tok.kind t ∧ [(59 : Nat)] = Tok.text t ∧ qBRa = Tok.n t ∧ qBRa = Tok.at_ t ∧ True) ∧ qBRa = e ∧ True) ∧ ((List.take qBR8 s == [(59 : Nat)]) = false → (qBR5 t) ∧ qBRc = e ∧ True)) ∧ (qBR6 s t e)) ∧ (((qBRf x) == (↑(59 : Nat) : Int)) = false → (((qBRf x) == (↑(44 : Nat) : Int)) = true → (decide (qBR9 s) = true → (qBR7 s) ∧ ((List.take qBR8 s == [(44 : Nat)]) = true → (qBRe = Tok.kind t ∧ [(44 : Nat)] = Tok.text t ∧ qBRa = Tok.n t ∧ qBRa = Tok.at_ t ∧ True) ∧ qBRa = e ∧ True) ∧ ((List.take qBR8 s == [(44 : Nat)]) = false → (qBR5 t) ∧ qBRc = e ∧ True)) ∧ (qBR6 s t e)) ∧ (((qBRf x) == (↑(44 : Nat) : Int)) = false → (((qBRf x) == (↑(43 : Nat) : Int)) = true → (decide (qBR9 s) = true → (qBR7 s) ∧ ((List.take qBR8 s == [(43 : Nat)]) = true → (qBRe = Tok.kind t ∧ [(43 : Nat)] = Tok.text t ∧ qBRa = Tok.n t ∧ qBRa = Tok.at_ t ∧ True) ∧ qBRa = e ∧ True) ∧ ((List.take qBR8 s == [(43 : Nat)]) = false → (qBR5 t) ∧ qBRc = e ∧ True)) ∧ (qBR6 s t e)) ∧ (((qBRf x) == (↑(43 : Nat) : Int)) = false → (((qBRf x) == (↑(45 : Nat) : Int)) = true → (decide (qBR9 s) = true → (qBR7 s) ∧ ((List.take qBR8 s == [(45 : Nat)]) = true → (qBRe = Tok.kind t ∧ [(45 : Nat)] = Tok.text t ∧ qBRa = Tok.n t ∧ qBRa = Tok.at_
t ∧ True) ∧ qBRa = e ∧ True) ∧ ((List.take qBR8 s == [(45 : Nat)]) = false → (qBR5 t) ∧ qBRc = e ∧ True)) ∧ (qBR6 s t e)) ∧ (((qBRf x) == (↑(45 : Nat) : Int)) = false → (((qBRf x) == (↑(42 : Nat) : Int)) = true → (decide (qBR9 s) = true → (qBR7 s) ∧ ((List.take qBR8 s == [(42 : Nat)]) = true → (qBRe = Tok.kind t ∧ [(42 : Nat)] = Tok.text t ∧ qBRa = Tok.n t ∧ qBRa = Tok.at_ t ∧ True) ∧ qBRa = e ∧ True) ∧ ((List.take qBR8 s == [(42 : Nat)]) = false → (qBR5 t) ∧ qBRc = e ∧ True)) ∧ (qBR6 s t e)) ∧ (((qBRf x) == (↑(42 : Nat) : Int)) = false → (((qBRf x) == (↑(60 : Nat) : Int)) = true → (decide (qBR9 s) = true → (qBR7 s) ∧ ((List.take qBR8 s == [(60 : Nat)]) = true → (qBRe = Tok.kind t ∧ [(60 : Nat)] = Tok.text t ∧ qBRa = Tok.n t ∧ qBRa = Tok.at_ t ∧ True) ∧ qBRa = e ∧ True) ∧ ((List.take qBR8 s == [(60 : Nat)]) = false → (qBR5 t) ∧ qBRc = e ∧ True)) ∧ (qBR6 s t e)) ∧ (((qBRf x) == (↑(60 : Nat) : Int)) = false → (((qBRf x) == (↑(46 : Nat) : Int)) = true → (decide ((qBRb s) ≥ (2 : Int)) = true → (qBRa ≤ (2 : Int) ∧ (2 : Int) ≤ (qBRb s)) ∧ ((List.take (Int.toNat (2 : Int)) s == [(46 : Nat), (46 : Nat)]) = true → (qBRe = Tok.kind t ∧ [(46 : Nat), (46 : Nat)] = Tok.text t ∧ qBRa = Tok.n t ∧ qBRa = Tok.at_ t ∧ True) ∧ qBRa = e ∧ True) ∧ ((List.take (Int.toNat (2 : Int)) s == [(46 : Nat), (46 : Nat)]) = false → (qBR5 t) ∧ qBRc = e ∧ True)) ∧ (decide ((qBRb s) ≥ (2 : Int)) = false → (qBR5 t) ∧ qBRc = e ∧ True)) ∧ (((qBRf x) == (↑(46 : Nat) : Int)) = false → (qBR5 t) ∧ qBRc = e ∧ True)))))))))))))) := by kernel_rfl
def sgnW (c : Nat) : Option (List Nat) :=
 if c = 123 then some [123] else if c = 125 then some [125] else if c = 40 then some [40] else if c = 41 then some [41] else if c = 59 then some [59] else if c = 44 then some [44]
 else if c = 43 then some [43] else if c = 45 then some [45] else if c = 42 then some [42] else if c = 60 then some [60] else if c = 46 then some [46, 46] else none
def z0 : Tok := ⟨0, [], 0, 0⟩
def tokS (s w : List Nat) : Tok × Int := if s.take w.length = w then (⟨3, w, 0, 0⟩, 0) else (z0, 150)
def tokP : List Nat → Tok × Int
 | [] => (z0, 150)
 | c :: r => if isL c then (if 32 < spn isLD (c :: r) then (z0, 2) else (⟨1, (c :: r).take (spn isLD (c :: r)), 0, 0⟩, 0))
  else if isD c then (⟨2, (c :: r).take (spn isD (c :: r)), (numb ((c :: r).take (spn isD (c :: r)))).1, 0⟩, (numb ((c :: r).take (spn isD (c :: r)))).2)
  else match sgnW c with | some w => tokS (c :: r) w | none => (z0, 150)
theorem Yk (c : Nat) (r : List Nat) : tokP (c :: r) = if isL c then (if 32 < spn isLD (c :: r) then (z0, 2) else (⟨1, (c :: r).take (spn isLD (c :: r)), 0, 0⟩, 0))
 else if isD c then (⟨2, (c :: r).take (spn isD (c :: r)), (numb ((c :: r).take (spn isD (c :: r)))).1, 0⟩, (numb ((c :: r).take (spn isD (c :: r)))).2)
 else match sgnW c with | some w => tokS (c :: r) w | none => (z0, 150) := rfl
theorem Zhh {f : Int → Bool} : ∀ {s : List Nat} {c : Nat}, c ∈ s.take (spn f s) → f c = true
 | [], c, h => by simp at h
 | x :: r, c, h => by
  unfold spn at h
  split at h
  · rename_i hx
    rw [List.take_succ_cons, List.mem_cons] at h
    rcases h with rfl | h
    · exact hx
    · exact Zhh h
  · simp at h
theorem Uc (s w : List Nat) (k : Int) (hk : k = w.length) :
 (decide ((↑(List.length s) : Int) ≥ k) = true → ((0 : Int) ≤ k ∧ k ≤ (↑(List.length s) : Int)) ∧ ((List.take (Int.toNat k) s == w) = true → ((3 : Int) = Tok.kind (tokS s w).1 ∧ w = Tok.text (tokS s w).1 ∧ (0 : Int) = Tok.n (tokS s w).1 ∧ (0 : Int) = Tok.at_ (tokS s w).1 ∧ True) ∧ (0 : Int) = (tokS s w).2 ∧ True) ∧
  ((List.take (Int.toNat k) s == w) = false → ((0 : Int) = Tok.kind (tokS s w).1 ∧ [] = Tok.text (tokS s w).1 ∧ (0 : Int) = Tok.n (tokS s w).1 ∧ (0 : Int) = Tok.at_ (tokS s w).1 ∧ True) ∧ (150 : Int) = (tokS s w).2 ∧ True)) ∧
 (decide ((↑(List.length s) : Int) ≥ k) = false → ((0 : Int) = Tok.kind (tokS s w).1 ∧ [] = Tok.text (tokS s w).1 ∧ (0 : Int) = Tok.n (tokS s w).1 ∧ (0 : Int) = Tok.at_ (tokS s w).1 ∧ True) ∧ (150 : Int) = (tokS s w).2 ∧ True) := by
 have e : Int.toNat k = w.length := by omega
 rw [e]
 unfold tokS
 refine ⟨fun h => ?_, fun h => ?_⟩
 · have h : (s.length : Int) ≥ k := by simpa using h
   refine ⟨⟨by omega, by omega⟩, fun h2 => ?_, fun h2 => ?_⟩
   · have h2 : List.take w.length s = w := by simpa using h2
     rw [if_pos h2]
     exact ⟨⟨rfl, rfl, rfl, rfl, trivial⟩, rfl, trivial⟩
   · have h2 : List.take w.length s ≠ w := by simpa using h2
     rw [if_neg h2]
     exact ⟨⟨rfl, rfl, rfl, rfl, trivial⟩, rfl, trivial⟩
 · have h : ¬ (s.length : Int) ≥ k := by simpa using h
   have h2 : List.take w.length s ≠ w := fun e => by
    have := congrArg List.length e
    rw [List.length_take] at this
    omega
   rw [if_neg h2]
   exact ⟨⟨rfl, rfl, rfl, rfl, trivial⟩, rfl, trivial⟩
theorem Zqp (s : List Nat) (h0 : 0 < s.length) (hs : s.length ≤ 1000000000) : PureC E 59 [.str false s] (.tup [tokV (tokP s).1, .int false .i64 (tokP s).2]) := by
  refine Za E_ok (Zg E_ok Z3f 400) ?_
  rw [Zqo]; delta qBRa qBR5 qBRb qBR9 qBRc qBR6 qBR7 qBR8 qBRf qBRd qBRe
  cases s with
  | nil => exact absurd h0 (by simp)
  | cons c r =>
  refine ⟨Int.le_refl 0, by simp only [List.length_cons]; omega, fun x hx => ?_⟩
  have hx : (c :: r)[0]? = some x := hx
  rw [List.getElem?_cons_zero] at hx
  cases hx
  refine ⟨trivial, fun hl => ?_, fun hl => ?_⟩
  · refine ⟨hs, fun y hy => ?_⟩
    have hy : y = spn isLD (c :: r) := hy
    have hle : y ≤ (c :: r).length := hy ▸ Zjr
    have hm : min y (c :: r).length = y := Nat.min_eq_left hle
    have e1 : Int.toNat (y : Int) = y := by omega
    rw [e1, List.length_take, hm]
    rw [Yk, if_pos hl, ← hy]
    refine ⟨⟨by omega, by omega⟩, fun h => ?_, fun h => ?_⟩
    · have h : (32 : Int) < y := by simpa using h
      rw [if_pos (by omega)]
      exact ⟨⟨rfl, rfl, rfl, rfl, trivial⟩, rfl, trivial⟩
    · have h : ¬ (32 : Int) < y := by simpa using h
      rw [if_neg (by omega)]
      exact ⟨⟨rfl, rfl, rfl, rfl, trivial⟩, rfl, trivial⟩
  refine ⟨trivial, fun hd => ?_, fun hd => ?_⟩
  · refine ⟨hs, fun y hy => ?_⟩
    have hy : y = spn isD (c :: r) := hy
    have hle : y ≤ (c :: r).length := hy ▸ Zjr
    have hm : min y (c :: r).length = y := Nat.min_eq_left hle
    have e1 : Int.toNat (y : Int) = y := by omega
    rw [e1, List.length_take, hm]
    rw [Yk, if_neg (by rw [hl]; decide), if_pos hd, ← hy]
    refine ⟨⟨by omega, by omega⟩, ⟨by omega, fun c' hc' => ?_⟩, fun q hq => ?_⟩
    · rw [hy] at hc'
      have := Zhh hc'
      unfold isD at this
      simp at this
      omega
    · subst hq
      exact ⟨⟨rfl, rfl, rfl, rfl, trivial⟩, rfl, trivial⟩
  refine ⟨Int.le_refl 0, by simp only [List.length_cons]; omega, fun x hx => ?_⟩
  have hx : (c :: r)[0]? = some x := hx
  rw [List.getElem?_cons_zero] at hx
  cases hx
  have hp : ∀ w, sgnW c = some w → tokP (c :: r) = tokS (c :: r) w := fun w hw => by
    rw [Yk, if_neg (by rw [hl]; decide), if_neg (by rw [hd]; decide), hw]
  have st : ∀ (n : Nat) (w : List Nat), sgnW n = some w → ((c : Int) == (n : Int)) = true → tokP (c :: r) = tokS (c :: r) w := fun n w hw h => by
    have : c = n := by have : (c : Int) = n := by simpa using h
                       omega
    subst this
    exact hp w hw
  refine ⟨fun h => by rw [st _ _ rfl h]; exact Uc _ _ _ rfl, fun h1 => ?_⟩
  refine ⟨fun h => by rw [st _ _ rfl h]; exact Uc _ _ _ rfl, fun h2 => ?_⟩
  refine ⟨fun h => by rw [st _ _ rfl h]; exact Uc _ _ _ rfl, fun h3 => ?_⟩
  refine ⟨fun h => by rw [st _ _ rfl h]; exact Uc _ _ _ rfl, fun h4 => ?_⟩
  refine ⟨fun h => by rw [st _ _ rfl h]; exact Uc _ _ _ rfl, fun h5 => ?_⟩
  refine ⟨fun h => by rw [st _ _ rfl h]; exact Uc _ _ _ rfl, fun h6 => ?_⟩
  refine ⟨fun h => by rw [st _ _ rfl h]; exact Uc _ _ _ rfl, fun h7 => ?_⟩
  refine ⟨fun h => by rw [st _ _ rfl h]; exact Uc _ _ _ rfl, fun h8 => ?_⟩
  refine ⟨fun h => by rw [st _ _ rfl h]; exact Uc _ _ _ rfl, fun h9 => ?_⟩
  refine ⟨fun h => by rw [st _ _ rfl h]; exact Uc _ _ _ rfl, fun h10 => ?_⟩
  refine ⟨fun h => by rw [st _ _ rfl h]; exact Uc _ _ _ rfl, fun h11 => ?_⟩
  have hn : sgnW c = none := by
    have f : ∀ n : Nat, ((c : Int) == (n : Int)) = false → c ≠ n := fun n h e => by subst e; simp at h
    unfold sgnW
    rw [if_neg (f _ h1), if_neg (f _ h2), if_neg (f _ h3), if_neg (f _ h4), if_neg (f _ h5), if_neg (f _ h6), if_neg (f _ h7), if_neg (f _ h8), if_neg (f _ h9), if_neg (f _ h10), if_neg (f _ h11)]
  have : tokP (c :: r) = (z0, 150) := by
    rw [Yk, if_neg (by rw [hl]; decide), if_neg (by rw [hd]; decide), hn]
  rw [this]
  exact ⟨⟨rfl, rfl, rfl, rfl, trivial⟩, rfl, trivial⟩
noncomputable def Z08 : Sum thy := Vo (dA1 dS) (fun x => 0 < x.1.length ∧ x.1.length ≤ 1000000000) (fun x => tokP x.1) fun y => .tup [tokV y.1, .int false .i64 y.2]
theorem Zuh : SumOk E 59 Z08 := Z3 E_ok (Zc (f := 59) rfl) fun x h => Zqp x.1 h.1 h.2
structure TkX where
 at_ : Nat
 ts : List Tok
 r : Nat
def Atk : Fr thy → Hp thy → Nat → Ann thy := fun T h i => { X := Bool × TkX, fr := fun x => [(0, T 0), (5, match x.1 with | true => .sl i 0 x.2.ts.length 4 none | false => .val (.slice none 0 0)), (6, .int false .i64 x.2.at_)], bl := fun x => (match x.1 with | true => [(i, .rows Th.toks x.2.ts 0)] | false => []), src := fun x => (match x.1 with | true => [(i, 5)] | false => []), md := [], ih := i + 1, M := i + 60, meas := fun x => x.2.r, ex := ex2, al := al2, exOk := Zuv, alOk := Zuw }
noncomputable def Ftk : Fns thy := addL (addS F0 59 Z08) 25 5 Atk E
theorem Z6o : FnsOk E Ftk := Zv E_ok (Zb F0_ok Zuh) _ _ _
abbrev qBRg (a0 : TkX) := (↑(TkX.at_ a0) : Int)
abbrev qBRl := (0 : Nat)
abbrev qBRp := (1 : Nat)
abbrev qBRh (a0 : Bool × TkX → Prop) (b0 : TkX) (c0 : List Nat) := (∃ (y_1 : TkX), a0 (false, y_1) ∧ y_1.3 + qBRp ≤ b0.3 ∧ true = true ∧ (c0 = c0 ∧ Value.slice none qBRl qBRl = Value.slice none qBRl qBRl ∧ wr IntKind.i64 ((qBRg b0) + (1 : Int)) = (qBRg y_1) ∧ True) ∧ True)
abbrev qBRi (a0 : Bool × TkX → Prop) (b0 : TkX) (c0 : List Nat) := (∃ (y_1 : TkX), a0 (false, y_1) ∧ y_1.3 + qBRp ≤ b0.3 ∧ true = true ∧ (c0 = c0 ∧ False ∧ wr IntKind.i64 ((qBRg b0) + (1 : Int)) = (qBRg y_1) ∧ True) ∧ True)
abbrev qBRj (a0 : List Nat) (b0 : TkX) (c0 : TkX) := (a0 = a0 ∧ (qBRl = qBRl ∧ List.length (TkX.ts b0) = List.length (TkX.ts c0) ∧ True) ∧ wr IntKind.i64 ((qBRg b0) + (1 : Int)) = (qBRg c0) ∧ True)
abbrev qBRk (a0 : TkX) (b0 : List Nat) := (List.drop (Int.toNat (qBRg a0)) b0)
abbrev qBRm := (Int.toNat (10 : Int) % (256 : Nat))
abbrev qBRn (a0 : List Nat) := (↑(List.length a0) : Int)
abbrev qBRo := (0 : Int)
abbrev qBRq (a0 : TkX) (b0 : Tok × Int) := ((qBRg a0) + (↑(List.length (Tok.text (Prod.fst b0))) : Int))
abbrev qBRr (a0 : TkX) (b0 : List Nat) := ((qBRg a0) + wr IntKind.i64 (idxL qBRm qBRl (qBRk a0 b0) + (1 : Int)))
abbrev qBRs (a0 : TkX) (b0 : TkX) := (TkX.ts a0 = TkX.ts b0 ∧ qBRl = qBRl)
abbrev qBRt (a0 : TkX) (b0 : List Tok) := (qBRl + List.length (TkX.ts a0) ≤ List.length (TkX.ts a0) ∧ List.take (List.length (TkX.ts a0)) (TkX.ts a0) = b0)
abbrev qBRu (a0 : TkX) (b0 : List Nat) := (qBRo ≤ (qBRg a0) ∧ (qBRg a0) ≤ (qBRn b0))
theorem Zls (s : List Nat) (l : List Tok) (a e : Int) : Zk E Ftk (vc E Ftk 400) 25 [.str false s] hp0 0 (fun r => ret E (patch hp0 0 r) r.v (.tup [.psl Th.toks l false, .int false .i64 a, .int false .i64 e])) = (
 (decide ((qBRn s) > (2000 : Int)) = true → l = [] ∧ qBRo = a ∧ (2 : Int) = e ∧ True) ∧ (decide ((qBRn s) > (2000 : Int)) = false → ∃ (R : Bool × TkX → Prop), ((∃ (y : TkX), R (false, y) ∧ true = true ∧ (s = s ∧ Value.slice none qBRl qBRl = Value.slice none qBRl qBRl ∧ qBRo = (qBRg y) ∧ True) ∧ True) ∨ ∃ (y : TkX), R (true, y) ∧ true = true ∧ False) ∧ (∀ (y : TkX), R (false, y) → (decide ((qBRg y) < (qBRn s)) = true → qBRo ≤ (qBRg y) ∧ (qBRg y) + (1 : Int) ≤ (qBRn s) ∧ ∀ (x : Nat), s[Int.toNat (qBRg y)]? = some x → (((↑x : Int) == (32 : Int)) = true → (qBRh R y s) ∨ ∃ (y_1 : TkX), R (true, y_1) ∧ y_1.3 + qBRp ≤ y.3 ∧ true = true ∧ False) ∧ (((↑x : Int) == (32 : Int)) = false → (((↑x : Int) == (9 : Int)) = true → (qBRh R y s) ∨ ∃ (y_1 : TkX), R (true, y_1) ∧ y_1.3 + qBRp ≤ y.3 ∧ true = true ∧ False) ∧ (((↑x : Int) == (9 : Int)) = false → (((↑x : Int) == (13 : Int)) = true → (qBRh R y s) ∨ ∃ (y_1 : TkX), R (true, y_1) ∧ y_1.3 + qBRp ≤ y.3 ∧ true = true ∧ False) ∧ (((↑x : Int) == (13 : Int)) = false → (((↑x : Int) == (10 : Int)) = true → (qBRh R y s) ∨ ∃ (y_1 : TkX), R (true, y_1) ∧ y_1.3 + qBRp ≤ y.3 ∧ true = true ∧ False) ∧ (((↑x : Int) == (10 : Int)) = false → (((↑x : Int) == (35 : Int)) = true → (qBRu y s) ∧ (decide (idxL qBRm qBRl (qBRk y s) < qBRo) = true → l = [] ∧ qBRo = a ∧ qBRo = e ∧ True) ∧ (decide (idxL qBRm qBRl (qBRk y s) < qBRo) = false → (∃ (y_1 : TkX), R (false, y_1) ∧ y_1.3 + qBRp ≤ y.3 ∧ true = true ∧ (s = s ∧ Value.slice none qBRl qBRl = Value.slice none qBRl qBRl ∧ wr IntKind.i64 (qBRr y s) = (qBRg y_1) ∧ True) ∧ True) ∨ ∃ (y_1 : TkX), R (true, y_1) ∧ y_1.3 + qBRp ≤ y.3 ∧ true = true ∧ False)) ∧ (((↑x : Int) == (35 : Int)) = false → (qBRu y s) ∧ (qBRl + qBRp ≤ List.length (qBRk y s) ∧ List.length (qBRk y s) ≤ (1000000000 : Nat)) ∧ ∀ (y_1 : Tok × Int), y_1 = tokP (qBRk y s) → ((Prod.snd y_1 != qBRo) = true → l = [] ∧ (qBRg y) = a ∧ Prod.snd y_1 = e ∧ True) ∧ ((Prod.snd y_1 != qBRo) = false → (∃ (y_2 : TkX), R (false, y_2) ∧ y_2.3 + qBRp ≤ y.3 ∧ true = true ∧ (s = s ∧ False ∧ wr IntKind.i64 (qBRq y y_1) = (qBRg y_2) ∧ True) ∧ True) ∨ ∃ (y_2 : TkX), R (true, y_2) ∧ y_2.3 + qBRp ≤ y.3 ∧ true = true ∧ (s = s ∧ (qBRl = qBRl ∧ qBRp = List.length (TkX.ts y_2) ∧ True) ∧ wr IntKind.i64 (qBRq y y_1) = (qBRg y_2) ∧ True) ∧ ([Tok.mk (Tok.kind (Prod.fst y_1)) (Tok.text (Prod.fst y_1)) (Tok.n (Prod.fst y_1)) (qBRg y)] = TkX.ts y_2 ∧ qBRl = qBRl) ∧ True))))))) ∧ (decide ((qBRg y) < (qBRn s)) = false → l = [] ∧ qBRo = a ∧ qBRo = e ∧ True)) ∧ ∀ (y : TkX), R (true, y) → (decide ((qBRg y) < (qBRn s)) = true → qBRo ≤ (qBRg y) ∧ (qBRg y) + (1 : Int) ≤ (qBRn s) ∧ ∀ (x : Nat), s[Int.toNat (qBRg y)]? = some x → (((↑x : Int) == (32 : Int)) = true → (qBRi R y s) ∨ ∃ (y_1 : TkX), R (true, y_1) ∧ y_1.3 + qBRp ≤ y.3 ∧ true = true ∧ (qBRj s y y_1) ∧ (qBRs y y_1) ∧ True) ∧ (((↑x : Int) == (32 : Int)) = false → (((↑x : Int) == (9 : Int)) = true → (qBRi R y s) ∨ ∃ (y_1 : TkX), R (true, y_1) ∧ y_1.3 + qBRp ≤ y.3 ∧ true = true ∧ (qBRj s y y_1) ∧ (qBRs y y_1) ∧ True) ∧ (((↑x : Int) == (9 : Int)) = false → (((↑x : Int) == (13 : Int)) = true → (qBRi R y s) ∨ ∃ (y_1 : TkX), R (true, y_1) ∧ y_1.3 + qBRp ≤ y.3 ∧ true = true ∧ (qBRj s y y_1) ∧ (qBRs y y_1) ∧ True) ∧ (((↑x : Int) == (13 : Int)) = false → (((↑x : Int) == (10 : Int)) = true → (qBRi R y s) ∨ ∃ (y_1 : TkX), R (true, y_1) ∧ y_1.3 + qBRp ≤ y.3 ∧ true = true ∧ (qBRj s y y_1) ∧ (qBRs y y_1) ∧ True) ∧ (((↑x : Int) == (10 : Int)) = false → (((↑x : Int) == (35 : Int)) = true → (qBRu y s) ∧ (decide (idxL qBRm qBRl (qBRk y s) < qBRo) = true → (qBRt y l) ∧ qBRo = a ∧ qBRo = e ∧ True) ∧ (decide (idxL qBRm qBRl (qBRk y s) < qBRo) = false → (∃ (y_1 : TkX), R (false, y_1) ∧ y_1.3 + qBRp ≤ y.3 ∧ true = true ∧ (s = s ∧ False ∧ wr IntKind.i64 (qBRr y s) = (qBRg y_1) ∧ True) ∧ True) ∨ ∃ (y_1 : TkX), R (true, y_1) ∧ y_1.3 + qBRp ≤ y.3 ∧ true = true ∧ (s = s ∧ (qBRl = qBRl ∧ List.length (TkX.ts y) = List.length (TkX.ts y_1) ∧ True) ∧ wr IntKind.i64 (qBRr y s) = (qBRg y_1) ∧ True) ∧ (qBRs y y_1) ∧ True)) ∧
(((↑x : Int) == (35 : Int)) = false → (qBRu y s) ∧ (qBRl + qBRp ≤ List.length (qBRk y s) ∧ List.length (qBRk y s) ≤ (1000000000 : Nat)) ∧ ∀ (y_1 : Tok × Int), y_1 = tokP (qBRk y s) → ((Prod.snd y_1 != qBRo) = true → l = [] ∧ (qBRg y) = a ∧ Prod.snd y_1 = e ∧ True) ∧ ((Prod.snd y_1 != qBRo) = false → (List.length (TkX.ts y) ≤ List.length (TkX.ts y) ∧ qBRl ≤ List.length (TkX.ts y) ∧ (List.length (TkX.ts y) + qBRp) * (40 : Nat) ≤ (140737488355328 : Nat)) ∧ ((∃ (y_2 : TkX), R (false, y_2) ∧ y_2.3 + qBRp ≤ y.3 ∧ true = true ∧ (s = s ∧ False ∧ wr IntKind.i64 (qBRq y y_1) = (qBRg y_2) ∧ True) ∧ True) ∨ ∃ (y_2 : TkX), R (true, y_2) ∧ y_2.3 + qBRp ≤ y.3 ∧ true = true ∧ (s = s ∧ (qBRl = qBRl ∧ List.length (TkX.ts y) + qBRp = List.length (TkX.ts y_2) ∧ True) ∧ wr IntKind.i64 (qBRq y y_1) = (qBRg y_2) ∧ True) ∧ (List.take (List.length (TkX.ts y)) (TkX.ts y) ++ [Tok.mk (Tok.kind (Prod.fst y_1)) (Tok.text (Prod.fst y_1)) (Tok.n (Prod.fst y_1)) (qBRg y)] = TkX.ts y_2 ∧ qBRl = qBRl) ∧ True)))))))) ∧ (decide ((qBRg y) < (qBRn s)) = false → (qBRt y l) ∧ qBRo = a ∧ qBRo = e ∧ True))) := by kernel_rfl
def blk (c : Nat) : Bool := c = 32 || c = 9 || c = 13 || c = 10
def tksL : Nat → List Nat → Nat → List Tok → List Tok × Int × Int
 | 0, _, _, ts => (ts, 0, 0)
 | k + 1, s, p, ts => match s[p]? with
  | none => (ts, 0, 0)
  | some c => if blk c then tksL k s (p + 1) ts
   else if c = 35 then (if idxL 10 0 (s.drop p) < 0 then (ts, 0, 0) else tksL k s (p + (idxL 10 0 (s.drop p)).toNat + 1) ts)
   else if (tokP (s.drop p)).2 ≠ 0 then ([], p, (tokP (s.drop p)).2)
   else tksL k s (p + (tokP (s.drop p)).1.text.length) (ts ++ [⟨(tokP (s.drop p)).1.kind, (tokP (s.drop p)).1.text, (tokP (s.drop p)).1.n, p⟩])
def Yq (s : List Nat) : List Tok × Int × Int := if 2000 < s.length then ([], 0, 2) else tksL s.length s 0 []
theorem Zlt (c : Nat) : ∀ (l : List Nat) (j : Nat), idxL c j l < j + l.length ∧ -1 ≤ idxL c j l
 | [], j => by unfold idxL; simp; try omega
 | x :: r, j => by
  unfold idxL
  split
  · simp; try omega
  · have := Zlt c r (j + 1)
    simp only [List.length_cons]
    omega
theorem Zyk {c : Nat} {w : List Nat} (h : sgnW c = some w) : 1 ≤ w.length := by
 unfold sgnW at h
 repeat' split at h
 all_goals (cases h <;> simp)
theorem Zn9 {s : List Nat} (h : (tokP s).2 = 0) : 1 ≤ (tokP s).1.text.length ∧ (tokP s).1.text.length ≤ s.length ∧ (tokP s).1.text = s.take (tokP s).1.text.length := by
 cases s with
 | nil => cases h
 | cons c r =>
  rw [Yk] at h ⊢
  have go : ∀ n, 1 ≤ n → n ≤ (c :: r).length → 1 ≤ ((c :: r).take n).length ∧ ((c :: r).take n).length ≤ (c :: r).length ∧ (c :: r).take n = (c :: r).take ((c :: r).take n).length := fun n h1 h2 => by
   have e : ((c :: r).take n).length = n := by rw [List.length_take]; omega
   rw [e]
   exact ⟨h1, h2, rfl⟩
  split at h
  · rename_i hl
    rw [if_pos hl]
    split at h
    · cases h
    · rename_i hn
      rw [if_neg hn]
      refine go _ ?_ Zjr
      have : isLD c = true := by unfold isLD; rw [hl]; rfl
      unfold spn
      rw [if_pos this]
      omega
  · rename_i hl
    rw [if_neg hl]
    split at h
    · rename_i hd
      rw [if_pos hd]
      refine go _ ?_ Zjr
      unfold spn
      rw [if_pos hd]
      omega
    · rename_i hd
      rw [if_neg hd]
      split at h
      · rename_i w hw
        unfold tokS at h ⊢
        split at h
        · rename_i ht
          have e := congrArg List.length ht
          rw [List.length_take] at e
          refine ⟨?_, ?_, ?_⟩
          · simp only [if_pos ht]
            exact Zyk hw
          · simp only [if_pos ht]
            omega
          · simp only [if_pos ht]
            exact ht.symm
        · cases h
      · cases h
def TkI (s : List Nat) (res : List Tok × Int × Int) (y : TkX) : Prop := y.at_ ≤ s.length ∧ s.length ≤ y.at_ + y.r ∧ y.ts.length ≤ y.at_ ∧ tksL y.r s y.at_ y.ts = res
theorem Z09 {s : List Nat} {res} {y : TkX} (h : TkI s res y) (hq : ¬ y.at_ < s.length) : res = (y.ts, 0, 0) := by
 obtain ⟨h1, h2, h3, h4⟩ := h
 rw [← h4]
 cases hr : y.r with
 | zero => rfl
 | succ k =>
  unfold tksL
  rw [List.getElem?_eq_none (by omega)]
theorem Zea {s : List Nat} {res} {y : TkX} {c : Nat} (h : TkI s res y) (hc : s[y.at_]? = some c) : ∃ k, y.r = k + 1 ∧ s.length ≤ y.at_ + (k + 1) ∧ y.at_ < s.length ∧ (if blk c then tksL k s (y.at_ + 1) y.ts
 else if c = 35 then (if idxL 10 0 (s.drop y.at_) < 0 then (y.ts, 0, 0) else tksL k s (y.at_ + (idxL 10 0 (s.drop y.at_)).toNat + 1) y.ts)
 else if (tokP (s.drop y.at_)).2 ≠ 0 then ([], y.at_, (tokP (s.drop y.at_)).2)
 else tksL k s (y.at_ + (tokP (s.drop y.at_)).1.text.length) (y.ts ++ [⟨(tokP (s.drop y.at_)).1.kind, (tokP (s.drop y.at_)).1.text, (tokP (s.drop y.at_)).1.n, y.at_⟩])) = res := by
 obtain ⟨h1, h2, h3, h4⟩ := h
 have hlt := (List.getElem?_eq_some_iff.1 hc).1
 cases hr : y.r with
 | zero => omega
 | succ k =>
  refine ⟨k, rfl, by omega, hlt, ?_⟩
  rw [hr] at h4
  unfold tksL at h4
  rw [hc] at h4
  exact h4
theorem Zoa {s : List Nat} {res} {y : TkX} {c : Nat} (h : TkI s res y) (hc : s[y.at_]? = some c) (hb : blk c = true) : TkI s res ⟨y.at_ + 1, y.ts, y.r - 1⟩ ∧ y.r - 1 + 1 ≤ y.r ∧ y.at_ < s.length := by
 obtain ⟨k, hr, hk, hl, he⟩ := Zea h hc
 rw [if_pos hb] at he
 have h3 := h.2.2.1
 refine ⟨⟨hl, ?_, ?_, ?_⟩, by omega, hl⟩
 · show s.length ≤ y.at_ + 1 + (y.r - 1)
   omega
 · show y.ts.length ≤ y.at_ + 1
   omega
 · rw [hr]
   exact he
theorem Z1a {s : List Nat} {res} {y : TkX} {c : Nat} (h : TkI s res y) (hc : s[y.at_]? = some c) (hb : blk c = false) (h35 : c = 35) (hi : ¬ idxL 10 0 (s.drop y.at_) < 0) : TkI s res ⟨y.at_ + (idxL 10 0 (s.drop y.at_)).toNat + 1, y.ts, y.r - 1⟩ ∧ y.r - 1 + 1 ≤ y.r ∧ y.at_ + (idxL 10 0 (s.drop y.at_)).toNat + 1 ≤ s.length := by
 obtain ⟨k, hr, hk, hl, he⟩ := Zea h hc
 rw [if_neg (by rw [hb]; decide), if_pos h35, if_neg hi] at he
 have h3 := h.2.2.1
 have hb := (Zlt 10 (s.drop y.at_) 0).1
 rw [List.length_drop] at hb
 refine ⟨⟨?_, ?_, ?_, ?_⟩, by omega, by omega⟩
 · show y.at_ + (idxL 10 0 (s.drop y.at_)).toNat + 1 ≤ s.length
   omega
 · show s.length ≤ y.at_ + (idxL 10 0 (s.drop y.at_)).toNat + 1 + (y.r - 1)
   omega
 · show y.ts.length ≤ y.at_ + (idxL 10 0 (s.drop y.at_)).toNat + 1
   omega
 · rw [hr]
   exact he
theorem Zui {s : List Nat} {res} {y : TkX} {c : Nat} (h : TkI s res y) (hc : s[y.at_]? = some c) (hb : blk c = false) (h35 : c = 35) (hi : idxL 10 0 (s.drop y.at_) < 0) : res = (y.ts, 0, 0) := by
 obtain ⟨k, hr, hk, hl, he⟩ := Zea h hc
 rw [if_neg (by rw [hb]; decide), if_pos h35, if_pos hi] at he
 exact he.symm
theorem Z1b {s : List Nat} {res} {y : TkX} {c : Nat} (h : TkI s res y) (hc : s[y.at_]? = some c) (hb : blk c = false) (h35 : c ≠ 35) (hi : (tokP (s.drop y.at_)).2 ≠ 0) : res = ([], (y.at_ : Int), (tokP (s.drop y.at_)).2) := by
 obtain ⟨k, hr, hk, hl, he⟩ := Zea h hc
 rw [if_neg (by rw [hb]; decide), if_neg h35, if_pos hi] at he
 exact he.symm
theorem Z1c {s : List Nat} {res} {y : TkX} {c : Nat} (h : TkI s res y) (hc : s[y.at_]? = some c) (hb : blk c = false) (h35 : c ≠ 35) (hi : (tokP (s.drop y.at_)).2 = 0) : TkI s res ⟨y.at_ + (tokP (s.drop y.at_)).1.text.length, y.ts ++ [⟨(tokP (s.drop y.at_)).1.kind, (tokP (s.drop y.at_)).1.text, (tokP (s.drop y.at_)).1.n, y.at_⟩], y.r - 1⟩ ∧ y.r - 1 + 1 ≤ y.r ∧ y.at_ + (tokP (s.drop y.at_)).1.text.length ≤ s.length := by
 obtain ⟨k, hr, hk, hl, he⟩ := Zea h hc
 rw [if_neg (by rw [hb]; decide), if_neg h35, if_neg (by rw [hi]; decide)] at he
 have h3 := h.2.2.1
 obtain ⟨n1, n2, _⟩ := Zn9 hi
 rw [List.length_drop] at n2
 refine ⟨⟨?_, ?_, ?_, ?_⟩, by omega, by omega⟩
 · show y.at_ + (tokP (s.drop y.at_)).1.text.length ≤ s.length
   omega
 · show s.length ≤ y.at_ + (tokP (s.drop y.at_)).1.text.length + (y.r - 1)
   omega
 · show (y.ts ++ [_]).length ≤ y.at_ + (tokP (s.drop y.at_)).1.text.length
   rw [List.length_append]
   simp
   omega
 · rw [hr]
   exact he
theorem Zlu (s : List Nat) : PureC E 25 [.str false s] (.tup [.psl Th.toks (Yq s).1 false, .int false .i64 (Yq s).2.1, .int false .i64 (Yq s).2.2]) := by
 refine Za E_ok (Zg E_ok Z6o 400) ?_
 rw [Zls]; delta qBRg qBRl qBRp qBRh qBRi qBRj qBRk qBRm qBRn qBRo qBRq qBRr qBRs qBRt qBRu
 refine ⟨fun h => ?_, fun h => ?_⟩
 · have h : (s.length : Int) > 2000 := by simpa using h
   unfold Yq
   rw [if_pos (by omega)]
   exact ⟨rfl, rfl, rfl, trivial⟩
 have h : ¬ (s.length : Int) > 2000 := by simpa using h
 have hp : Yq s = tksL s.length s 0 [] := by unfold Yq; rw [if_neg (by omega)]
 generalize Yq s = res at hp
 refine ⟨fun x => (x.1 = false → x.2.ts = []) ∧ TkI s res x.2, Or.inl ⟨⟨0, [], s.length⟩, ⟨fun _ => rfl, Nat.zero_le _, by show s.length ≤ 0 + s.length; omega, Nat.le_refl _, hp.symm⟩, rfl, ⟨rfl, rfl, rfl, trivial⟩, trivial⟩, ?_, ?_⟩
 all_goals
  rintro y ⟨h0, hy⟩
  replace hy : TkI s res y := hy
  refine ⟨fun hq => ?_, fun hq => ?_⟩
 · have h0 : y.ts = [] := h0 rfl
   have hq : (y.at_ : Int) < s.length := by simpa using hq
   refine ⟨by omega, by omega, fun c hc => ?_⟩
   have hc : s[y.at_]? = some c := hc
   have bl : ∀ n : Nat, ((c : Int) == (n : Int)) = true → c = n := fun n h => by
    have : (c : Int) = n := by simpa using h
    omega
   have nb : ∀ n : Nat, ((c : Int) == (n : Int)) = false → c ≠ n := fun n h e => by subst e; simp at h
   have gb : blk c = true → (∃ (y_1 : TkX), ((false = false → y_1.ts = []) ∧ TkI s res y_1) ∧ y_1.3 + (1 : Nat) ≤ y.3 ∧ true = true ∧ (s = s ∧ Value.slice none (0 : Nat) (0 : Nat) = Value.slice none (0 : Nat) (0 : Nat) ∧ wr IntKind.i64 ((↑(TkX.at_ y) : Int) + (1 : Int)) = (↑(TkX.at_ y_1) : Int) ∧ True) ∧ True) := fun hb =>
    ⟨⟨y.at_ + 1, y.ts, y.r - 1⟩, ⟨fun _ => h0, (Zoa hy hc hb).1⟩, (Zoa hy hc hb).2.1, rfl, ⟨rfl, rfl, wr64 (by omega) (by omega), trivial⟩, trivial⟩
   refine ⟨fun h1 => Or.inl (gb (by rw [bl 32 h1]; rfl)), fun h1 => ⟨fun h2 => Or.inl (gb (by rw [bl 9 h2]; rfl)), fun h2 => ⟨fun h3 => Or.inl (gb (by rw [bl 13 h3]; rfl)), fun h3 => ⟨fun h4 => Or.inl (gb (by rw [bl 10 h4]; rfl)), fun h4 => ?_⟩⟩⟩⟩
   have hb : blk c = false := by
    unfold blk
    simp [nb 32 h1, nb 9 h2, nb 13 h3, nb 10 h4]
   have ea : Int.toNat (y.at_ : Int) = y.at_ := by omega
   rw [ea]
   refine ⟨fun h5 => ?_, fun h5 => ?_⟩
   · have h35 : c = 35 := bl 35 h5
     refine ⟨⟨by omega, by omega⟩, fun h6 => ?_, fun h6 => ?_⟩
     · have h6 : idxL 10 0 (s.drop y.at_) < 0 := by simpa using h6
       have := Zui hy hc hb h35 h6
       rw [this, h0]
       exact ⟨rfl, rfl, rfl, trivial⟩
     · have h6 : ¬ idxL 10 0 (s.drop y.at_) < 0 := by simpa using h6
       obtain ⟨g1, g2, g3⟩ := Z1a hy hc hb h35 h6
       refine Or.inl ⟨⟨y.at_ + (idxL 10 0 (s.drop y.at_)).toNat + 1, y.ts, y.r - 1⟩, ⟨fun _ => h0, g1⟩, g2, rfl, ⟨rfl, rfl, ?_, trivial⟩, trivial⟩
       show wr IntKind.i64 ((y.at_ : Int) + wr IntKind.i64 (idxL 10 0 (s.drop y.at_) + 1)) = ((y.at_ + (idxL 10 0 (s.drop y.at_)).toNat + 1 : Nat) : Int)
       rw [show wr IntKind.i64 (idxL 10 0 (s.drop y.at_) + 1) = idxL 10 0 (s.drop y.at_) + 1 from wr64 (by omega) (by omega)]
       rw [wr64 (by omega) (by omega)]
       omega
   · have h35 : c ≠ 35 := nb 35 h5
     refine ⟨⟨by omega, by omega⟩, ⟨by rw [List.length_drop]; omega, by rw [List.length_drop]; omega⟩, fun z hz => ?_⟩
     subst hz
     refine ⟨fun h6 => ?_, fun h6 => ?_⟩
     · have h6 : (tokP (s.drop y.at_)).2 ≠ 0 := by simpa using h6
       rw [Z1b hy hc hb h35 h6]
       exact ⟨rfl, rfl, rfl, trivial⟩
     · have h6 : (tokP (s.drop y.at_)).2 = 0 := by simpa using h6
       obtain ⟨g1, g2, g3⟩ := Z1c hy hc hb h35 h6
       rw [h0] at g1
       refine Or.inr ⟨_, ⟨(fun h => by cases h), g1⟩, g2, rfl, ⟨rfl, ⟨rfl, rfl, trivial⟩, ?_, trivial⟩, ⟨rfl, rfl⟩, trivial⟩
       show wr IntKind.i64 ((y.at_ : Int) + ((tokP (s.drop y.at_)).1.text.length : Int)) = ((y.at_ + (tokP (s.drop y.at_)).1.text.length : Nat) : Int)
       rw [wr64 (by omega) (by omega)]
       omega
 · have hq : ¬ (y.at_ : Int) < s.length := by simpa using hq
   rw [Z09 hy (by omega), h0 rfl]
   exact ⟨rfl, rfl, rfl, trivial⟩
 · have hq : (y.at_ : Int) < s.length := by simpa using hq
   refine ⟨by omega, by omega, fun c hc => ?_⟩
   have hc : s[y.at_]? = some c := hc
   have bl : ∀ n : Nat, ((c : Int) == (n : Int)) = true → c = n := fun n h => by
    have : (c : Int) = n := by simpa using h
    omega
   have nb : ∀ n : Nat, ((c : Int) == (n : Int)) = false → c ≠ n := fun n h e => by subst e; simp at h
   have gb : blk c = true → ∃ (y_1 : TkX), ((true = false → y_1.ts = []) ∧ TkI s res y_1) ∧ y_1.3 + (1 : Nat) ≤ y.3 ∧ true = true ∧ (s = s ∧ ((0 : Nat) = (0 : Nat) ∧ List.length (TkX.ts y) = List.length (TkX.ts y_1) ∧ True) ∧ wr IntKind.i64 ((↑(TkX.at_ y) : Int) + (1 : Int)) = (↑(TkX.at_ y_1) : Int) ∧ True) ∧ (TkX.ts y = TkX.ts y_1 ∧ (0 : Nat) = (0 : Nat)) ∧ True := fun hb =>
    ⟨⟨y.at_ + 1, y.ts, y.r - 1⟩, ⟨(fun h => by cases h), (Zoa hy hc hb).1⟩, (Zoa hy hc hb).2.1, rfl, ⟨rfl, ⟨rfl, rfl, trivial⟩, wr64 (by omega) (by omega), trivial⟩, ⟨rfl, rfl⟩, trivial⟩
   refine ⟨fun h1 => Or.inr (gb (by rw [bl 32 h1]; rfl)), fun h1 => ⟨fun h2 => Or.inr (gb (by rw [bl 9 h2]; rfl)), fun h2 => ⟨fun h3 => Or.inr (gb (by rw [bl 13 h3]; rfl)), fun h3 => ⟨fun h4 => Or.inr (gb (by rw [bl 10 h4]; rfl)), fun h4 => ?_⟩⟩⟩⟩
   have hb : blk c = false := by
    unfold blk
    simp [nb 32 h1, nb 9 h2, nb 13 h3, nb 10 h4]
   have ea : Int.toNat (y.at_ : Int) = y.at_ := by omega
   have h3 := hy.2.2.1
   rw [ea]
   refine ⟨fun h5 => ?_, fun h5 => ?_⟩
   · have h35 : c = 35 := bl 35 h5
     refine ⟨⟨by omega, by omega⟩, fun h6 => ?_, fun h6 => ?_⟩
     · have h6 : idxL 10 0 (s.drop y.at_) < 0 := by simpa using h6
       have := Zui hy hc hb h35 h6
       rw [this]
       exact ⟨⟨by omega, List.take_length⟩, rfl, rfl, trivial⟩
     · have h6 : ¬ idxL 10 0 (s.drop y.at_) < 0 := by simpa using h6
       obtain ⟨g1, g2, g3⟩ := Z1a hy hc hb h35 h6
       refine Or.inr ⟨_, ⟨(fun h => by cases h), g1⟩, g2, rfl, ⟨rfl, ⟨rfl, rfl, trivial⟩, ?_, trivial⟩, ⟨rfl, rfl⟩, trivial⟩
       show wr IntKind.i64 ((y.at_ : Int) + wr IntKind.i64 (idxL 10 0 (s.drop y.at_) + 1)) = ((y.at_ + (idxL 10 0 (s.drop y.at_)).toNat + 1 : Nat) : Int)
       rw [show wr IntKind.i64 (idxL 10 0 (s.drop y.at_) + 1) = idxL 10 0 (s.drop y.at_) + 1 from wr64 (by omega) (by omega)]
       rw [wr64 (by omega) (by omega)]
       omega
   · have h35 : c ≠ 35 := nb 35 h5
     refine ⟨⟨by omega, by omega⟩, ⟨by rw [List.length_drop]; omega, by rw [List.length_drop]; omega⟩, fun z hz => ?_⟩
     subst hz
     refine ⟨fun h6 => ?_, fun h6 => ?_⟩
     · have h6 : (tokP (s.drop y.at_)).2 ≠ 0 := by simpa using h6
       rw [Z1b hy hc hb h35 h6]
       exact ⟨rfl, rfl, rfl, trivial⟩
     · have h6 : (tokP (s.drop y.at_)).2 = 0 := by simpa using h6
       obtain ⟨g1, g2, g3⟩ := Z1c hy hc hb h35 h6
       refine ⟨⟨Nat.le_refl _, Nat.zero_le _, by omega⟩, Or.inr ⟨_, ⟨(fun h => by cases h), g1⟩, g2, rfl, ⟨rfl, ⟨rfl, ?_, trivial⟩, ?_, trivial⟩, ⟨?_, rfl⟩, trivial⟩⟩
       · show y.ts.length + 1 = (y.ts ++ [_]).length
         rw [List.length_append]
         rfl
       · show wr IntKind.i64 ((y.at_ : Int) + ((tokP (s.drop y.at_)).1.text.length : Int)) = ((y.at_ + (tokP (s.drop y.at_)).1.text.length : Nat) : Int)
         rw [wr64 (by omega) (by omega)]
         omega
       · show List.take y.ts.length y.ts ++ _ = y.ts ++ _
         rw [List.take_length]
 · have hq : ¬ (y.at_ : Int) < s.length := by simpa using hq
   rw [Z09 hy (by omega)]
   exact ⟨⟨by omega, List.take_length⟩, rfl, rfl, trivial⟩
end
section
open Go.RowKit
section
variable {Y : Thy} {E : Eng Y}
def frzH (h : Hp Y) (bs : List Nat) : Hp Y := fun b => match memB b bs with | true => frzB (h b) | false => h b
noncomputable def frzA (E : Eng Y) (gth : List (SV Y) → Option Y.Th) (n : Nat) (S : Sum Y) : Sum Y := fun args h i k =>
 match args with
 | a :: rest => frzL (frzK E gth h n) rest fun rest' bs => S (a :: rest') (frzH h bs) i fun r => Ww (bs ++ r.mods) fun m => k ⟨r.v, r.n, m, patch (frzH h bs) i r, none⟩
 | [] => False
theorem Zbo {h : Hp Y} {bs : List Nat} {b : Nat} (hb : frzH h bs b ≠ none) : h b ≠ none := by
 intro e
 apply hb
 unfold frzH
 rw [e]
 cases memB b bs <;> rfl
theorem Zzb {h : Hp Y} {bs : List Nat} {b : Nat} (hb : b ∉ bs) : frzH h bs b = h b := by
 unfold frzH
 cases hm : memB b bs with
 | true => exact absurd (memB_iff.1 hm) hb
 | false => rfl
theorem U1 (h : Hp Y) (bs : List Nat) (i : Nat) (r : Res Y) : patch h i ⟨r.v, r.n, bs ++ r.mods, patch (frzH h bs) i r, none⟩ = patch (frzH h bs) i r := by
 funext b
 rw [Zh]
 by_cases c : b ∈ bs ++ r.mods ∨ (i ≤ b ∧ b < i + r.n)
 · rw [if_pos c]
 · rw [if_neg c, Zh]
   have c1 : b ∉ bs := fun h => c (.inl (List.mem_append_left _ h))
   rw [if_neg (fun h => c (h.elim (fun h => .inl (List.mem_append_right _ h)) .inr)), Zzb c1]
theorem Zhw {h : Hp Y} {bs : List Nat} {i n : Nat} {mods : List Nat} {σ σ' : Pl} {g g' : GH} {w w' : World} {B : Nat} (hI : Inv E B σ h g w) (hS : Stp i n mods σ (frzG E h σ bs g w) w σ' g' w') : Stp i n (bs ++ mods) σ g w σ' g' w' := by
 refine ⟨hS.sig, hS.snew, (Vn hI).trans hS.gle, fun r o v hv => ?_, hS.gmnew, fun r hr hx => hS.heap r hr fun b hb => hx b (List.mem_append_right _ hb), hS.size, hS.os, hS.tape, hS.output, fun b r z h1 h2 => ?_⟩
 · rcases hS.gcnew r o v hv with h1 | h1 | ⟨b, hb, h1⟩
   · rcases Um h1 with ⟨_, b, hb, z, x, h2, _⟩ | h2
     · exact .inr (.inr ⟨b, List.mem_append_left _ hb, z, h2⟩)
     · exact .inl h2
   · exact .inr (.inl h1)
   · exact .inr (.inr ⟨b, List.mem_append_right _ hb, h1⟩)
 · rcases hS.blk b r z h1 h2 with h3 | ⟨b', hb', h3⟩
   · exact .inl h3
   · exact .inr ⟨b', List.mem_append_right _ hb', h3⟩
theorem Z3x (hE : EngOk E) {gth : List (SV Y) → Option Y.Th} {n : Nat} {f : Nat} {S : Sum Y} (hS : SumOk E f S) : SumOk E f (frzA E gth n S) := by
 refine ⟨hS.good, fun args h i k hD hk => ?_⟩
 unfold frzA at hk
 split at hk
 case h_2 => exact hk.elim
 rename_i a rest
 obtain ⟨rest', bs, hk, o⟩ := W2 (Ul hE n) hk
 obtain ⟨r, hk, hR, htri⟩ := hS.ok (a :: rest') (frzH h bs) i _ (fun b hb => hD b (Zbo hb)) hk
 rw [Y4] at hk
 have args2 : ∀ (B : Nat) (σ : Pl) (g : GH) (w : World) (vals : List Value), Inv E B σ h g w → DenL E σ g (a :: rest) vals → DenL E σ (frzG E h σ bs g w) (a :: rest') vals := by
  intro B σ g w vals hI hd
  have hle := Vn (bs := bs) hI
  refine ⟨by rw [← hd.1]; simp [o.len], fun j sv' u h1 h2 => ?_⟩
  cases j with
  | zero =>
   simp at h1; subst h1
   exact (hd.2 0 _ u rfl h2).mono (.refl _) hle
  | succ j =>
   have h1 : rest'[j]? = some sv' := by simpa using h1
   have hjl : j < rest.length := by rw [← o.len]; exact (List.getElem?_eq_some_iff.1 h1).1
   exact (o.den h σ g w B _ (fun _ _ => rfl) hI hle Zbu j _ sv' u (List.getElem?_eq_getElem hjl) h1 (hd.2 (j + 1) _ u (by simpa using List.getElem?_eq_getElem hjl) h2)).mono (fun b p h => by cases h) (.refl _)
 refine ⟨_, hk, fun b hb => ?_, ?_⟩
 · have hb : b ∈ bs ++ r.mods := hb
   rcases List.mem_append.1 hb with h1 | h1
   · obtain ⟨y, hy, _⟩ := o.blk b h1
     rw [hy]; simp
   · exact Zbo (hR b h1)
 rcases htri with ht | ⟨p, hp, ht⟩
 · refine .inl ?_
   intro B σ g w vals hh hrd hI hB hfree hd
   obtain rfl : hh = h := funext fun b => hrd b trivial
   refine (ht B σ _ w vals (frzH hh bs) (fun _ _ => rfl) (Ze4 hE o.blk hI) hB hfree (args2 B σ g w _ hI hd)).mono ?_
   rintro en w' ⟨u, he, σ', g', hst, hI', hv⟩
   refine ⟨u, he, σ', g', Zhw hI hst, ?_, hv⟩
   rw [U1]
   exact hI'
 · refine .inr ⟨p, hp, fun B σ g w vals hI hB hfree hd => ?_⟩
   refine (ht B σ _ w vals (Ze4 hE o.blk hI) hB hfree (args2 B σ g w _ hI hd)).mono ?_
   rintro en w' ⟨he, σ', g', hst, hI'⟩
   refine ⟨he, σ', g', Zhw hI hst, ?_⟩
   rw [U1]
   exact hI'
noncomputable def Zj9 (E : Eng Y) (gth : List (SV Y) → Option Y.Th) (n : Nat) (S : Sum Y) : Sum Y := fun args h i k =>
 frzL (frzK E gth h n) args fun rest' bs => S rest' (frzH h bs) i fun r => Ww (bs ++ r.mods) fun m => k ⟨r.v, r.n, m, patch (frzH h bs) i r, none⟩
theorem Zei (hE : EngOk E) {gth : List (SV Y) → Option Y.Th} {n : Nat} {f : Nat} {S : Sum Y} (hS : SumOk E f S) : SumOk E f (Zj9 E gth n S) := by
 refine ⟨hS.good, fun args h i k hD hk => ?_⟩
 unfold Zj9 at hk
 obtain ⟨rest', bs, hk, o⟩ := W2 (Ul hE n) hk
 obtain ⟨r, hk, hR, htri⟩ := hS.ok rest' (frzH h bs) i _ (fun b hb => hD b (Zbo hb)) hk
 rw [Y4] at hk
 have args2 : ∀ (B : Nat) (σ : Pl) (g : GH) (w : World) (vals : List Value), Inv E B σ h g w → DenL E σ g args vals → DenL E σ (frzG E h σ bs g w) rest' vals := by
  intro B σ g w vals hI hd
  have hle := Vn (bs := bs) hI
  refine ⟨by rw [← hd.1]; exact o.len, fun j sv' u h1 h2 => ?_⟩
  have hjl : j < args.length := by rw [← o.len]; exact (List.getElem?_eq_some_iff.1 h1).1
  exact (o.den h σ g w B _ (fun _ _ => rfl) hI hle Zbu j _ sv' u (List.getElem?_eq_getElem hjl) h1 (hd.2 j _ u (List.getElem?_eq_getElem hjl) h2)).mono (fun b p h => by cases h) (.refl _)
 refine ⟨_, hk, fun b hb => ?_, ?_⟩
 · have hb : b ∈ bs ++ r.mods := hb
   rcases List.mem_append.1 hb with h1 | h1
   · obtain ⟨y, hy, _⟩ := o.blk b h1
     rw [hy]; simp
   · exact Zbo (hR b h1)
 rcases htri with ht | ⟨p, hp, ht⟩
 · refine .inl ?_
   intro B σ g w vals hh hrd hI hB hfree hd
   obtain rfl : hh = h := funext fun b => hrd b trivial
   refine (ht B σ _ w vals (frzH hh bs) (fun _ _ => rfl) (Ze4 hE o.blk hI) hB hfree (args2 B σ g w _ hI hd)).mono ?_
   rintro en w' ⟨u, he, σ', g', hst, hI', hv⟩
   refine ⟨u, he, σ', g', Zhw hI hst, ?_, hv⟩
   rw [U1]
   exact hI'
 · refine .inr ⟨p, hp, fun B σ g w vals hI hB hfree hd => ?_⟩
   refine (ht B σ _ w vals (Ze4 hE o.blk hI) hB hfree (args2 B σ g w _ hI hd)).mono ?_
   rintro en w' ⟨he, σ', g', hst, hI'⟩
   refine ⟨he, σ', g', Zhw hI hst, ?_⟩
   rw [U1]
   exact hI'
end
end
end Go.Proofs.YtbepgmadijomjaaGreatDoor
