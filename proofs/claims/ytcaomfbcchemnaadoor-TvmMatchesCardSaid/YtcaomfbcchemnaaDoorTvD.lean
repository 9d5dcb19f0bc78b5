/- Chapter 21: Verify of the program. -/
import Derived.Test.YtcaomfbcchemnaaDoorTvC
namespace Go.Proofs.YtcaomfbcchemnaaDoor
open Go
set_option linter.unusedVariables false
set_option linter.unusedSimpArgs false
noncomputable def dIns : Dc E Ins := .map (dAgg dIII) (fun x => ⟨x.1, x.2.1, x.2.2.1⟩) (fun x => (x.op, x.n, x.m, ())) (fun _ => rfl)
noncomputable def dCode : Dc E (List Ins) := (dList (E := E) Th.ins : Dc E (List (thy.dom Th.ins)))
noncomputable def dInts : Dc E (List Int) := (dList (E := E) Th.ints : Dc E (List (thy.dom Th.ints)))
noncomputable def dL1 {α : Type} (d : Dc E α) : DcL E (α × Unit) := .cons d .nil
noncomputable def dL2 {α β : Type} (d : Dc E α) (e : Dc E β) : DcL E (α × β × Unit) := .cons d (dL1 e)
noncomputable def dL3 {α β γ : Type} (d : Dc E α) (e : Dc E β) (f : Dc E γ) : DcL E (α × β × γ × Unit) := .cons d (dL2 e f)
noncomputable def dL4 {α β γ δ : Type} (d : Dc E α) (e : Dc E β) (f : Dc E γ) (k : Dc E δ) : DcL E (α × β × γ × δ × Unit) := .cons d (dL3 e f k)
noncomputable def Sformed : Sum thy := sumP (dL1 dIns) (fun _ => True) fun x => .bool false (formedF x.1)
noncomputable def Seff : Sum thy := sumP (dL1 dI) (fun _ => True) fun x => .tup [.int false .i64 (eff x.1).1, .int false .i64 (eff x.1).2]
noncomputable def Sneeds : Sum thy := sumP (dL1 dI) (fun _ => True) fun x => .int false .i64 (needsF x.1)
noncomputable def Sbin : Sum thy := sumP dIII (fun _ => True) fun x => .tup [.int false .i64 (binF x.1 x.2.1 x.2.2.1).1, .int false .i64 (binF x.1 x.2.1 x.2.2.1).2]
def nextC (c : List Ins) (i : Int) : List Int := match c[i.toNat]? with | some x => nextR i x | none => []
noncomputable def Sfollow : Sum thy := sumP (dL2 dCode dI) (fun x => 0 ≤ x.2.1 ∧ x.2.1 < x.1.length ∧ x.1.length ≤ 4096) fun x => .psl .ints (nextC x.1 x.2.1) false
noncomputable def F2 : Fns thy := addS (addS (addS (addS (addS (addS (addS (addS F1 31 Sformed) 33 Seff) 47 Sneeds) 52 Sformed) 53 Seff) 24 Sneeds) 71 Sbin) 54 Sfollow
theorem F2_ok : FnsOk E F2 := by
  refine addS_ok (addS_ok (addS_ok (addS_ok (addS_ok (addS_ok (addS_ok (addS_ok F1_ok ?_) ?_) ?_) ?_) ?_) ?_) ?_) ?_
  · exact sumP_ok E_ok (good_of (f := 31) rfl) fun x _ => formed_pure x.1
  · exact sumP_ok E_ok (good_of (f := 33) rfl) fun x _ => effect_pure x.1
  · exact sumP_ok E_ok (good_of (f := 47) rfl) fun x _ => needs_pure x.1
  · exact sumP_ok E_ok (good_of (f := 52) rfl) fun x _ => rformed_pure x.1
  · exact sumP_ok E_ok (good_of (f := 53) rfl) fun x _ => rpops_pure x.1
  · exact sumP_ok E_ok (good_of (f := 24) rfl) fun x _ => rneeds_pure x.1
  · exact sumP_ok E_ok (good_of (f := 71) rfl) fun x _ => rbinary_pure x.1 x.2.1 x.2.2.1
  · refine sumP_ok E_ok (good_of (f := 54) rfl) fun x h => ?_
    obtain ⟨h0, h1, h2⟩ := h
    obtain ⟨y, hy⟩ : ∃ y, x.1[x.2.1.toNat]? = some y := ⟨x.1[x.2.1.toNat]'(by omega), by simp⟩
    have := follow_pure x.1 x.2.1 y h0 h1 h2 hy
    unfold nextC
    rw [hy]
    exact this
def bOf : SV thy → Nat | .sl b _ _ _ _ => b | .ptr b _ => b | _ => 0
/-- a loop's index, how many rounds are left, a list, a number -/
structure LX where
  k : Nat
  r : Nat
  D : List Int
  m : Int
/-- the loop of IndexFunc -/
def A48 : Fr thy → Hp thy → Nat → Ann thy := fun T h i => { X := LX, fr := fun x => [(0, T 0), (1, T 1), (7, T 7), (8, .int false .i64 x.k)], bl := fun _ => [], src := [], md := [], ih := i, M := i + 30, meas := fun x => x.r }
/-- the loop of Repeat -/
def A32 : Fr thy → Hp thy → Nat → Ann thy := fun T h i => { X := LX, fr := fun x => [(7, T 7), (8, .int false .i64 x.k)], bl := fun x => [(bOf (T 7), .rows .ints x.D 0)], src := [], md := [bOf (T 7)], ih := i, M := i + 30, meas := fun x => x.r }
/-- the loop of Verify -/
def A9 : Fr thy → Hp thy → Nat → Ann thy := fun T h i => { X := LX, fr := fun x => [(0, T 0), (2, .int false .i64 x.m), (4, T 4), (30, T 30), (31, T 31), (32, .int false .i64 x.k)], bl := fun x => [(bOf (T 4), .rows .ints x.D 0)], src := [], md := [bOf (T 4)], ih := i, M := i + 60, meas := fun x => x.r }
def blkS (h : Hp thy) : SV thy → List (Nat × Blk thy) | .sl b _ _ _ _ => (match h b with | some x => [(b, x)] | none => []) | _ => []
/-- the loop over what can follow -/
def A9n : Fr thy → Hp thy → Nat → Ann thy := fun T h i => { X := LX, fr := fun x => [(0, T 0), (2, T 2), (4, T 4), (5, T 5), (10, T 10), (30, T 30), (31, T 31), (32, T 32), (110, T 110), (111, T 111), (112, .int false .i64 x.k)], bl := fun x => (bOf (T 4), .rows .ints x.D 0) :: blkS h (T 110), src := [], md := [bOf (T 4)], ih := i, M := i + 20, meas := fun x => x.r }
noncomputable def F3 : Fns thy := addL (addL (addL (addL F2 48 2 A48 E) 32 8 A32 E) 9 8 A9 E) 9 23 A9n E
theorem F3_ok : FnsOk E F3 := addL_ok E_ok (addL_ok E_ok (addL_ok E_ok (addL_ok E_ok F2_ok _ _ _) _ _ _) _ _ _) _ _ _
theorem mask_u64 {y : Int} (h0 : 0 ≤ y) (h : y < 4294967296) : bitsOp .and .u64 y 4294967295 = y := by
  obtain ⟨n, rfl⟩ := Int.eq_ofNat_of_zero_le h0
  have h' : n < 4294967296 := by omega
  have e : (BitVec.ofInt 64 (n : Int) &&& BitVec.ofInt 64 4294967295).toNat = n := by
    rw [BitVec.toNat_and]
    have e1 : (BitVec.ofInt 64 (n : Int)).toNat = n := by
      rw [BitVec.toNat_ofInt]; omega
    have e2 : (BitVec.ofInt 64 4294967295).toNat = 2 ^ 32 - 1 := by decide
    rw [e1, e2, Nat.and_two_pow_sub_one_eq_mod]
    omega
  show IntKind.u64.wrap ((BitVec.ofInt 64 (n : Int) &&& BitVec.ofInt 64 4294967295).toNat : Int) = n
  rw [e, IntKind.wrap_u64]
  omega
theorem wr_u64 {n : Int} (h1 : 0 ≤ n) (h2 : n < 18446744073709551616) : wr .u64 n = n := by simp only [wr, IntKind.wrap_u64]; omega
theorem all_take_succ {α : Type} {f : α → Bool} {l : List α} {k : Nat} {x : α} (h : l[k]? = some x) : (l.take (k + 1)).all f = ((l.take k).all f && f x) := by
  obtain ⟨hk, rfl⟩ := List.getElem?_eq_some_iff.1 h
  rw [List.take_succ_eq_append_getElem hk, List.all_append, List.all_cons, List.all_nil, Bool.and_true]
theorem all_of_take {α : Type} {f : α → Bool} {l : List α} {k : Nat} {x : α} (h : l[k]? = some x) (hf : f x = false) : l.all f = false := by
  rw [Bool.eq_false_iff]
  intro hh
  have := (List.all_eq_true.1 hh) x (List.mem_of_getElem? h)
  rw [hf] at this; cases this
--@cond bmul | 50 | F3 | 400 | (x y : Int) | [.int false .u64 x, .int false .u64 y] | (p q : Int) | .tup [.int false .u64 p, .int false .u64 q]
theorem cond_bmul (x y : Int) (p q : Int) : callF E F3 (vc E F3 400) 50 [.int false .u64 x, .int false .u64 y] hp0 0 (fun r => ret E (patch hp0 0 r) r.v (.tup [.int false .u64 p, .int false .u64 q])) = (
  wr IntKind.u64
        (wr IntKind.u64
            (wr IntKind.u64
                (Int.fdiv x (2 ^ min (Int.toNat 32) (IntKind.bits IntKind.u64)) *
                  Int.fdiv y (2 ^ min (Int.toNat 32) (IntKind.bits IntKind.u64))) +
              Int.fdiv
                (wr IntKind.u64
                  (wr IntKind.u64
                      (Int.fdiv x (2 ^ min (Int.toNat 32) (IntKind.bits IntKind.u64)) *
                        bitsOp BinOp.and IntKind.u64 y 4294967295) +
                    Int.fdiv
                      (wr IntKind.u64
                        (bitsOp BinOp.and IntKind.u64 x 4294967295 * bitsOp BinOp.and IntKind.u64 y 4294967295))
                      (2 ^ min (Int.toNat 32) (IntKind.bits IntKind.u64))))
                (2 ^ min (Int.toNat 32) (IntKind.bits IntKind.u64))) +
          Int.fdiv
            (wr IntKind.u64
              (bitsOp BinOp.and IntKind.u64
                  (wr IntKind.u64
                    (wr IntKind.u64
                        (Int.fdiv x (2 ^ min (Int.toNat 32) (IntKind.bits IntKind.u64)) *
                          bitsOp BinOp.and IntKind.u64 y 4294967295) +
                      Int.fdiv
                        (wr IntKind.u64
                          (bitsOp BinOp.and IntKind.u64 x 4294967295 * bitsOp BinOp.and IntKind.u64 y 4294967295))
                        (2 ^ min (Int.toNat 32) (IntKind.bits IntKind.u64))))
                  4294967295 +
                wr IntKind.u64
                  (bitsOp BinOp.and IntKind.u64 x 4294967295 *
                    Int.fdiv y (2 ^ min (Int.toNat 32) (IntKind.bits IntKind.u64)))))
            (2 ^ min (Int.toNat 32) (IntKind.bits IntKind.u64))) =
      p ∧
    wr IntKind.u64 (x * y) = q ∧ True
  ) := by kernel_rfl
--@end
--@cond contains | 29 | F3 | 400 | (c : List Ins) | [.psl .ins c false, .fn (.func 30) [] []] | (b : Bool) | .bool false b
theorem cond_contains (c : List Ins) (b : Bool) : callF E F3 (vc E F3 400) 29 [.psl .ins c false, .fn (.func 30) [] []] hp0 0 (fun r => ret E (patch hp0 0 r) r.v (.bool false b)) = (
  ∃ (R : LX → Prop),
    (∃ (x : LX),
        R x ∧
          true = true ∧
            ((c = c ∧ (false = true → false = true)) ∧
                (Fn.func 30 = Fn.func 30 ∧ True ∧ True) ∧
                  (↑(List.length c) : Int) = (↑(List.length c) : Int) ∧ 0 = (↑(LX.k x) : Int) ∧ True) ∧
              True) ∧
      ∀ (x : LX),
        R x →
          (decide ((↑(LX.k x) : Int) < (↑(List.length c) : Int)) = true →
              0 ≤ (↑(LX.k x) : Int) ∧
                (↑(LX.k x) : Int) + 1 ≤ (↑(List.length c) : Int) ∧
                  ∀ (x_1 : Ins),
                    c[Int.toNat (↑(LX.k x) : Int)]? = some x_1 →
                      True ∧
                        ((!formedF x_1) = true →
                            (decide ((↑(LX.k x) : Int) ≥ 0) = true → true = b) ∧
                              (decide ((↑(LX.k x) : Int) ≥ 0) = false → false = b)) ∧
                          ((!formedF x_1) = false →
                            ∃ (x' : LX),
                              R x' ∧
                                x'.2 + 1 ≤ x.2 ∧
                                  true = true ∧
                                    ((c = c ∧ (false = true → false = true)) ∧
                                        (Fn.func 30 = Fn.func 30 ∧ True ∧ True) ∧
                                          (↑(List.length c) : Int) = (↑(List.length c) : Int) ∧
                                            wr IntKind.i64 ((↑(LX.k x) : Int) + 1) = (↑(LX.k x') : Int) ∧ True) ∧
                                      True)) ∧
            (decide ((↑(LX.k x) : Int) < (↑(List.length c) : Int)) = false → false = b)
  ) := by kernel_rfl
--@end
theorem bmul_pure (y : Int) (h0 : 0 ≤ y) (h1 : y < 4294967296) : PureC E 50 [.int false .u64 1, .int false .u64 y] (.tup [.int false .u64 0, .int false .u64 y]) := by
  refine pure_of_call E_ok (callOk_of E_ok F3_ok 400) ?_
  rw [cond_bmul]
  have e1 : Int.fdiv y (2 ^ min (Int.toNat 32) (IntKind.bits IntKind.u64)) = 0 := by
    show y.fdiv 4294967296 = 0
    rw [Int.fdiv_eq_ediv_of_nonneg _ (by omega)]; omega
  have e2 : Int.fdiv 1 (2 ^ min (Int.toNat 32) (IntKind.bits IntKind.u64)) = 0 := by decide
  have e3 : bitsOp .and .u64 1 4294967295 = 1 := mask_u64 (by omega) (by omega)
  have e4 := mask_u64 h0 h1
  have e5 : Int.fdiv 0 (2 ^ min (Int.toNat 32) (IntKind.bits IntKind.u64)) = 0 := by decide
  have e6 : wr .u64 0 = 0 := by decide
  have e7 : wr .u64 y = y := wr_u64 h0 (by omega)
  have e8 : bitsOp .and .u64 0 4294967295 = 0 := mask_u64 (by omega) (by omega)
  simp only [e1, e2, e3, e4, e5, e6, e7, e8, Int.zero_mul, Int.one_mul, Int.mul_zero, Int.zero_add, Int.add_zero, and_self]
theorem contains_pure (c : List Ins) (hc : c.length ≤ 4096) : PureC E 29 [.psl .ins c false, .fn (.func 30) [] []] (.bool false (!c.all formedF)) := by
  refine pure_of_call E_ok (callOk_of E_ok F3_ok 400) ?_
  rw [cond_contains]
  refine ⟨fun x => x.k + x.r = c.length ∧ (c.take x.k).all formedF = true, ⟨⟨0, c.length, [], 0⟩, by simp, by simp⟩, fun x hR => ?_⟩
  obtain ⟨h1, h2⟩ := hR
  simp only [bif_true, bif_false, bif_nt, bif_tf, bif_ft, beq_iff_eq, bne_iff_ne, beq_eq_false_iff_ne, bne_eq_false_iff_eq, decide_eq_true_eq, decide_eq_false_iff_not, Bool.or_eq_true, Bool.or_eq_false_iff, Bool.not_eq_true', Bool.not_eq_false', Bool.and_eq_true, Bool.and_true, Bool.true_and, Bool.and_eq_false_iff, beq_self_eq_true, mm2_max, mm2_min, ne_eq, and_true, true_and, Bool.true_eq_false, Bool.false_eq_true, false_or, or_false, true_implies, Int.ofNat_eq_natCast, not_true_eq_false, not_false_eq_true, Decidable.not_not]
  refine ⟨fun hlt => ⟨by omega, by omega, fun y hy => ⟨fun hf => ⟨fun _ => ?_, fun h => by omega⟩, fun hf => ?_⟩⟩, fun hge => ?_⟩
  · rw [Int.toNat_natCast] at hy
    rw [all_of_take hy hf]; rfl
  · rw [Int.toNat_natCast] at hy
    refine ⟨⟨x.k + 1, x.r - 1, [], 0⟩, ⟨by show x.k + 1 + (x.r - 1) = _; omega, by show (c.take (x.k + 1)).all formedF = true; rw [all_take_succ hy, h2, hf]; rfl⟩, by show x.r - 1 + 1 ≤ x.r; omega, ?_⟩
    rw [wr64 (by omega) (by omega)]
    simp
  · rw [List.take_of_length_le (by omega)] at h2
    rw [h2]; rfl
end Go.Proofs.YtcaomfbcchemnaaDoor
