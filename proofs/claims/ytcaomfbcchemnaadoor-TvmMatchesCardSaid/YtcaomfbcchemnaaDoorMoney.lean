/- What the functions of package money return: Add, Sub, Mul, Div, each as a function of integers. -/
import Derived.Test.YtcaomfbcchemnaaDoorProg
import Derived.Test.YtcaomfbcchemnaaDoorMem
import Derived.Test.YtcaomfbcchemnaaDoorArith
namespace Go.Proofs.YtcaomfbcchemnaaDoor
open Go.RowKit
set_option linter.unusedVariables false

set_option maxHeartbeats 400000 in
theorem abs_any (a : Int) (w : World) (h : -9007199254740992 ≤ a) (h2 : a ≤ 9007199254740992) :
    Calls Tryd.prog 116 #[.int .i64 a] w fun e w' => e = .returned (.int .u64 a.natAbs) ∧ w = w' := by
  go_enter Tryd.func116, Tryd.ntmps116
  go_wp2_with fail
  all_goals go_ret
  · exact ⟨ret_int (by simp only [IntKind.wrap_u64]; omega), rfl⟩
  · exact ⟨ret_int (by omega), rfl⟩

set_option maxHeartbeats 400000 in
theorem in_any (a : Addr) (n c : Nat) (zs : List Int) (w : World) (hl : zs.length = n) (hn : n ≤ 1000) (hc : ∀ i, i < n → w.cell? (a.add i) = some (.int .i64 (zs.getD i 0))) :
    Calls Tryd.prog 114 #[.slice (some a) n c] w fun e w' => e = .returned (.bool (zs.all inR)) ∧ w = w' := by
  have H := Lib.hid hl
  clear hl
  go_enter Tryd.func114, Tryd.ntmps114
  go_wp2_with fail
  go_loop [4, 7] (fun _ i => ∃ k : Nat, k ≤ n ∧ i = .int .i64 k ∧ (zs.take k).all inR = true) (fun _ i => n - (intOf i).toNat)
  case atStart => exact ⟨0, Nat.zero_le _, rfl, rfl⟩
  case round =>
    obtain ⟨k, hk, rfl, hr⟩ := hrel
    have HR := Lib.hid hr
    clear hr
    by_cases hlt : k < n
    · have hcell := hc k hlt
      have hg : zs.getD k 0 = zs[k]'(by rw [H.out]; exact hlt) := by simp [H.out, hlt]
      have hts : zs.take (k + 1) = zs.take k ++ [zs.getD k 0] := by
        rw [List.take_succ_eq_append_getElem (by rw [H.out]; exact hlt), hg]
      have hall : inR (zs.getD k 0) = false → zs.all inR = false := by
        intro h
        rw [Bool.eq_false_iff]
        intro hh
        have := (List.all_eq_true.1 hh) (zs.getD k 0) (by rw [hg]; exact List.getElem_mem _)
        rw [h] at this
        cases this
      have HT := Lib.hid hts
      have HA := Lib.hid hall
      clear hts hg hc hall
      generalize zs.getD k 0 = z at *
      by_cases hz1 : z < -9007199254740992
      · go_wp2_with fail
        go_ret
        exact ⟨ret_bool (HA.out (inR_not.2 (by omega))).symm, rfl⟩
      · by_cases hz2 : 9007199254740992 < z
        · go_wp2_with fail
          go_ret
          exact ⟨ret_bool (HA.out (inR_not.2 (by omega))).symm, rfl⟩
        · go_wp2_with fail
          go_round
          case rel => exact ⟨k + 1, by omega, by go_num, by rw [HT.out]; simp [HR.out, inR_iff]; omega⟩
          case measure => simp [intOf]; omega
    · have hkn : zs.length ≤ k := by rw [H.out]; omega
      have HK := Lib.hid hkn
      clear hkn
      go_wp2_with fail
      go_ret
      exact ⟨ret_bool (by rw [← HR.out, List.take_of_length_le HK.out]), rfl⟩

set_option maxHeartbeats 400000 in
theorem ranged_any (a : Int) (w : World) :
    Calls Tryd.prog 115 #[.int .i64 a] w fun e w' => e = .returned (.tuple #[.int .i64 (rngF a).1, .int .i64 (rngF a).2]) ∧ Ext w w' := by
  cases h : inR a
  all_goals
    have e0 : [a].all inR = inR a := by simp
    rw [h] at e0
    have H := Lib.hid h
    have E0 := Lib.hid e0
    clear h e0
    go_enter Tryd.func115, Tryd.ntmps115
    go_wp2_with fail
    refine (in_any _ 1 _ [a] _ rfl (by omega) ?_).mono ?_
    · intro i hi
      obtain rfl : i = 0 := by omega
      simp [go_sem]
    rw [E0.out]
    rintro e w1 ⟨rfl, rfl⟩
    go_wp2_with fail
    go_ret2
    exact ⟨ret_int2 (by simp [rngF, H.out]) (by simp [rngF, H.out]), (Ext.refl _).alloc _⟩

set_option maxHeartbeats 400000 in
theorem two_any (a b : Int) (w : World) (A : Addr) (c : Nat) (h0 : w.cell? (A.add 0) = some (.int .i64 a)) (h1 : w.cell? (A.add 1) = some (.int .i64 b)) (r : Bool) (hr : Hid ((inR a && inR b) = r)) :
    Calls Tryd.prog 114 #[.slice (some A) 2 c] w fun e w' => e = .returned (.bool r) ∧ w = w' := by
  refine (in_any A 2 c [a, b] w rfl (by omega) ?_).mono fun e w' h => ?_
  · intro i hi
    match i, hi with
    | 0, _ => exact h0
    | 1, _ => exact h1
  · simpa [hr.out] using h

set_option maxHeartbeats 400000 in
theorem add_any (a b : Int) (w : World) :
    Calls Tryd.prog 104 #[.int .i64 a, .int .i64 b] w fun e w' => e = .returned (.tuple #[.int .i64 (addF a b).1, .int .i64 (addF a b).2]) ∧ Ext w w' := by
  cases h : inR a && inR b
  · have H := Lib.hid h
    clear h
    go_enter Tryd.func104, Tryd.ntmps104
    go_wp2_with fail
    refine (two_any a b _ _ _ (by simp [go_sem]) (by simp [go_sem]) _ H).mono ?_
    rintro e w1 ⟨rfl, rfl⟩
    go_wp2_with fail
    go_ret2
    exact ⟨ret_int2 (by simp only [addF, H.out]; rfl) (by simp only [addF, H.out]; rfl), (Ext.refl _).alloc _⟩
  · have H := Lib.hid h
    have hb := h
    simp only [Bool.and_eq_true, inR_iff] at hb
    obtain ⟨⟨h1, h2⟩, h3, h4⟩ := hb
    clear h
    go_enter Tryd.func104, Tryd.ntmps104
    go_wp2_with fail
    refine (two_any a b _ _ _ (by simp [go_sem]) (by simp [go_sem]) _ H).mono ?_
    rintro e w1 ⟨rfl, rfl⟩
    go_wp2_with fail
    refine (ranged_any _ _).mono ?_
    rintro e w1 ⟨rfl, hx⟩
    go_wp2_with fail
    go_ret2
    exact ⟨ret_int2 (by simp only [addF, H.out]; rfl) (by simp only [addF, H.out]; rfl), ((Ext.refl _).alloc _).trans hx⟩

set_option maxHeartbeats 400000 in
theorem sub_any (a b : Int) (w : World) :
    Calls Tryd.prog 105 #[.int .i64 a, .int .i64 b] w fun e w' => e = .returned (.tuple #[.int .i64 (subF a b).1, .int .i64 (subF a b).2]) ∧ Ext w w' := by
  cases h : inR a && inR b
  · have H := Lib.hid h
    clear h
    go_enter Tryd.func105, Tryd.ntmps105
    go_wp2_with fail
    refine (two_any a b _ _ _ (by simp [go_sem]) (by simp [go_sem]) _ H).mono ?_
    rintro e w1 ⟨rfl, rfl⟩
    go_wp2_with fail
    go_ret2
    exact ⟨ret_int2 (by simp only [subF, H.out]; rfl) (by simp only [subF, H.out]; rfl), (Ext.refl _).alloc _⟩
  · have H := Lib.hid h
    have hb := h
    simp only [Bool.and_eq_true, inR_iff] at hb
    obtain ⟨⟨h1, h2⟩, h3, h4⟩ := hb
    clear h
    go_enter Tryd.func105, Tryd.ntmps105
    go_wp2_with fail
    refine (two_any a b _ _ _ (by simp [go_sem]) (by simp [go_sem]) _ H).mono ?_
    rintro e w1 ⟨rfl, rfl⟩
    go_wp2_with fail
    refine (ranged_any _ _).mono ?_
    rintro e w1 ⟨rfl, hx⟩
    go_wp2_with fail
    go_ret2
    exact ⟨ret_int2 (by simp only [subF, H.out]; rfl) (by simp only [subF, H.out]; rfl), ((Ext.refl _).alloc _).trans hx⟩

set_option maxHeartbeats 400000 in
theorem mul64_any (x y : Nat) (hx : x ≤ 9007199254740992) (hy : y ≤ 9007199254740992) (w : World) :
    Calls Tryd.prog 60 #[.int .u64 x, .int .u64 y] w fun e w' => e = .returned (.tuple #[.int .u64 (x * y / 18446744073709551616 : Nat), .int .u64 (x * y % 18446744073709551616 : Nat)]) ∧ w = w' := by
  go_enter Tryd.func60, Tryd.ntmps60
  go_wp2_with fail
  go_ret2
  refine ⟨ret_int2 ?_ (lo_eq x y), rfl⟩
  rw [mask32 x (by omega), mask32 y (by omega)]
  have h := hi_eq (x % 4294967296) (x / 4294967296) (y % 4294967296) (y / 4294967296) (by omega) (by omega) (by omega) (by omega)
  rw [mul_parts x y]
  exact h

set_option maxHeartbeats 400000 in
theorem mul_any (a b : Int) (w : World) :
    Calls Tryd.prog 106 #[.int .i64 a, .int .i64 b] w fun e w' => e = .returned (.tuple #[.int .i64 (mulF a b).1, .int .i64 (mulF a b).2]) ∧ Ext w w' := by
  cases h : inR a && inR b
  · have H := Lib.hid h
    clear h
    go_enter Tryd.func106, Tryd.ntmps106
    go_wp2_with fail
    refine (two_any a b _ _ _ (by simp [go_sem]) (by simp [go_sem]) _ H).mono ?_
    rintro e w1 ⟨rfl, rfl⟩
    go_wp2_with fail
    go_ret2
    exact ⟨ret_int2 (by simp only [mulF, H.out]; rfl) (by simp only [mulF, H.out]; rfl), (Ext.refl _).alloc _⟩
  · have H := Lib.hid h
    have hb := h
    simp only [Bool.and_eq_true, inR_iff] at hb
    obtain ⟨⟨h1, h2⟩, h3, h4⟩ := hb
    clear h
    have hm := mulF_big h1 h2 h3 h4
    have hle : a.natAbs * b.natAbs ≤ 9007199254740992 * 9007199254740992 := Nat.mul_le_mul (by omega) (by omega)
    have ha := abs_any a
    have hb := abs_any b
    have hM := mul64_any a.natAbs b.natAbs (by omega) (by omega)
    have HM := Lib.hid hM
    have HA := Lib.hid ha
    have HB := Lib.hid hb
    clear ha hb hM
    have hab : inR (a * b) = true → -9007199254740992 ≤ a * b ∧ a * b ≤ 9007199254740992 := inR_iff.1
    by_cases hz : a.natAbs * b.natAbs ≤ 9007199254740992
    · have hin : inR (a * b) = true := by rw [hm]; simp [hz]
      have hx := hab hin
      obtain ⟨hx1, hx2⟩ := hx
      have z1 : ((a.natAbs * b.natAbs / 18446744073709551616 : Nat) : Int) = 0 := by omega
      have z2 : ((a.natAbs * b.natAbs % 18446744073709551616 : Nat) : Int) ≤ 9007199254740992 := by omega
      have HI := Lib.hid hin
      have Z1 := Lib.hid z1
      have Z2 := Lib.hid z2
      clear hin hm hab z1 z2 hz hle
      go_enter Tryd.func106, Tryd.ntmps106
      go_wp2_with fail
      refine (two_any a b _ _ _ (by simp [go_sem]) (by simp [go_sem]) _ H).mono ?_
      rintro e w1 ⟨rfl, rfl⟩
      go_wp2_with fail
      refine (HA.out _ h1 h2).mono ?_
      rintro e w1 ⟨rfl, rfl⟩
      go_wp2_with fail
      refine (HB.out _ h3 h4).mono ?_
      rintro e w1 ⟨rfl, rfl⟩
      go_wp2_with fail
      refine (HM.out _).mono ?_
      rw [Z1.out]
      have z2 := Z2.out
      generalize ((a.natAbs * b.natAbs % 18446744073709551616 : Nat) : Int) = q at *
      rintro e w1 ⟨rfl, rfl⟩
      go_wp2_with fail
      go_ret2
      exact ⟨ret_int2 (by simp only [mulF, H.out, rngF, HI.out]; rfl) (by simp only [mulF, H.out, rngF, HI.out]; rfl), (Ext.refl _).alloc _⟩
    · have hin : inR (a * b) = false := by rw [hm]; simp [hz]
      have HI := Lib.hid hin
      clear hin hm hab
      generalize a.natAbs * b.natAbs = p at *
      have hp2 : ((p / 18446744073709551616 : Nat) : Int) = 0 ∧ 9007199254740992 < ((p % 18446744073709551616 : Nat) : Int) ∨ 0 < ((p / 18446744073709551616 : Nat) : Int) := by omega
      generalize ((p / 18446744073709551616 : Nat) : Int) = q1 at *
      generalize ((p % 18446744073709551616 : Nat) : Int) = q2 at *
      clear hz hle
      rcases hp2 with ⟨rfl, hq⟩ | hq
      all_goals
        go_enter Tryd.func106, Tryd.ntmps106
        go_wp2_with fail
        refine (two_any a b _ _ _ (by simp [go_sem]) (by simp [go_sem]) _ H).mono ?_
        rintro e w1 ⟨rfl, rfl⟩
        go_wp2_with fail
        refine (HA.out _ h1 h2).mono ?_
        rintro e w1 ⟨rfl, rfl⟩
        go_wp2_with fail
        refine (HB.out _ h3 h4).mono ?_
        rintro e w1 ⟨rfl, rfl⟩
        go_wp2_with fail
        refine (HM.out _).mono ?_
        rintro e w1 ⟨rfl, rfl⟩
        go_wp2_with fail
        go_ret2
        exact ⟨ret_int2 (by simp only [mulF, H.out, rngF, HI.out]; rfl) (by simp only [mulF, H.out, rngF, HI.out]; rfl), (Ext.refl _).alloc _⟩

set_option maxHeartbeats 400000 in
theorem div_any (a b m : Int) (w : World) :
    Calls Tryd.prog 110 #[.int .i64 a, .int .i64 b, .int .i64 m] w fun e w' => e = .returned (.tuple #[.int .i64 (divF a b m).1, .int .i64 (divF a b m).2]) ∧ Ext w w' := by
  by_cases hm : m < 8 ∨ 10 < m
  · have HM := Lib.hid hm
    have g1 : (m != 8) = true := by rw [bne_iff_ne]; omega
    have g2 : (m != 9) = true := by rw [bne_iff_ne]; omega
    have g3 : (m != 10) = true := by rw [bne_iff_ne]; omega
    clear hm
    go_enter Tryd.func110, Tryd.ntmps110
    go_wp2_with fail
    go_ret2
    exact ⟨ret_int2 (by simp only [divF, if_pos HM.out]) (by simp only [divF, if_pos HM.out]), Ext.refl _⟩
  · have HM := Lib.hid hm
    have hm3 : m = 8 ∨ m = 9 ∨ m = 10 := by omega
    clear hm
    cases h : inR a && inR b
    · have H := Lib.hid h
      clear h
      rcases hm3 with rfl | rfl | rfl
      all_goals
        go_enter Tryd.func110, Tryd.ntmps110
        go_wp2_with fail
        refine (two_any a b _ _ _ (by simp [go_sem]) (by simp [go_sem]) _ H).mono ?_
        rintro e w1 ⟨rfl, rfl⟩
        go_wp2_with fail
        go_ret2
        exact ⟨ret_int2 (by simp only [divF, if_neg HM.out, H.out]; rfl) (by simp only [divF, if_neg HM.out, H.out]; rfl), (Ext.refl _).alloc _⟩
    · have H := Lib.hid h
      have hb := h
      simp only [Bool.and_eq_true, inR_iff] at hb
      obtain ⟨⟨h1, h2⟩, h3, h4⟩ := hb
      clear h
      by_cases hb0 : b ≤ 0
      · have HB0 := Lib.hid hb0
        rcases hm3 with rfl | rfl | rfl
        all_goals
          go_enter Tryd.func110, Tryd.ntmps110
          go_wp2_with fail
          refine (two_any a b _ _ _ (by simp [go_sem]) (by simp [go_sem]) _ H).mono ?_
          rintro e w1 ⟨rfl, rfl⟩
          go_wp2_with fail
          go_ret2
          exact ⟨ret_int2 (by simp only [divF, if_neg HM.out, H.out, if_pos HB0.out]; rfl) (by simp only [divF, if_neg HM.out, H.out, if_pos HB0.out]; rfl), (Ext.refl _).alloc _⟩
      · have HB0 := Lib.hid hb0
        have hb1 : 0 < b := by omega
        rcases hm3 with rfl | rfl | rfl
        · go_enter Tryd.func110, Tryd.ntmps110
          go_wp2_with fail
          refine (two_any a b _ _ _ (by simp [go_sem]) (by simp [go_sem]) _ H).mono ?_
          rintro e w1 ⟨rfl, rfl⟩
          go_wp2_with fail
          · have ht : a.tmod b < 0 := by assumption
            go_ret2
            exact ⟨ret_int2 (by rw [down_lt hb1 ht]; simp [divF, H.out, Int.not_le.2 hb1]) (by simp [divF, H.out, Int.not_le.2 hb1]), (Ext.refl _).alloc _⟩
          · have ht : 0 ≤ a.tmod b := by assumption
            go_ret2
            exact ⟨ret_int2 (by rw [down_ge hb1 ht]; simp [divF, H.out, Int.not_le.2 hb1]) (by simp [divF, H.out, Int.not_le.2 hb1]), (Ext.refl _).alloc _⟩
        · go_enter Tryd.func110, Tryd.ntmps110
          go_wp2_with fail
          refine (two_any a b _ _ _ (by simp [go_sem]) (by simp [go_sem]) _ H).mono ?_
          rintro e w1 ⟨rfl, rfl⟩
          go_wp2_with fail
          · have ht : 0 < a.tmod b := by assumption
            go_ret2
            exact ⟨ret_int2 (by rw [up_gt hb1 ht]; simp [divF, H.out, Int.not_le.2 hb1]) (by simp [divF, H.out, Int.not_le.2 hb1]), (Ext.refl _).alloc _⟩
          · have ht : a.tmod b ≤ 0 := by assumption
            go_ret2
            exact ⟨ret_int2 (by rw [up_le hb1 ht]; simp [divF, H.out, Int.not_le.2 hb1]) (by simp [divF, H.out, Int.not_le.2 hb1]), (Ext.refl _).alloc _⟩
        · go_enter Tryd.func110, Tryd.ntmps110
          go_wp2_with fail
          refine (two_any a b _ _ _ (by simp [go_sem]) (by simp [go_sem]) _ H).mono ?_
          rintro e w1 ⟨rfl, rfl⟩
          go_wp2_with fail
          · have ht : (2 * a + b).tmod (2 * b) < 0 := by assumption
            go_ret2
            exact ⟨ret_int2 (by rw [down_lt (by omega) ht]; simp [divF, H.out, Int.not_le.2 hb1]) (by simp [divF, H.out, Int.not_le.2 hb1]), (Ext.refl _).alloc _⟩
          · have ht : 0 ≤ (2 * a + b).tmod (2 * b) := by assumption
            go_ret2
            exact ⟨ret_int2 (by rw [down_ge (by omega) ht]; simp [divF, H.out, Int.not_le.2 hb1]) (by simp [divF, H.out, Int.not_le.2 hb1]), (Ext.refl _).alloc _⟩

/-! The reference's functions of money. -/

set_option maxHeartbeats 400000 in
theorem rin_any (a : Int) (w : World) :
    Calls Tryd.prog 83 #[.int .i64 a] w fun e w' => e = .returned (.bool (inR a)) ∧ w = w' := by
  go_enter Tryd.func83, Tryd.ntmps83
  go_wp2_with fail
  all_goals go_ret
  all_goals exact ⟨ret_bool (by simp [inR]; try omega), rfl⟩

set_option maxHeartbeats 400000 in
theorem rchecked_any (a : Int) (w : World) :
    Calls Tryd.prog 84 #[.int .i64 a] w fun e w' => e = .returned (.tuple #[.int .i64 (rngF a).1, .int .i64 (rngF a).2]) ∧ w = w' := by
  have hc := rin_any a
  cases h : inR a
  all_goals
    rw [h] at hc
    have H := Lib.hid h
    have HC := Lib.hid hc
    clear h hc
    go_enter Tryd.func84, Tryd.ntmps84
    go_wp2_with fail
    refine (HC.out _).mono ?_
    rintro e w1 ⟨rfl, rfl⟩
    go_wp2_with fail
    go_ret2
    exact ⟨ret_int2 (by simp [rngF, H.out]) (by simp [rngF, H.out]), rfl⟩

set_option maxHeartbeats 400000 in
theorem rabs_any (a : Int) (w : World) (h : -9007199254740992 ≤ a) (h2 : a ≤ 9007199254740992) :
    Calls Tryd.prog 85 #[.int .i64 a] w fun e w' => e = .returned (.int .i64 a.natAbs) ∧ w = w' := by
  go_enter Tryd.func85, Tryd.ntmps85
  go_wp2_with fail
  all_goals go_ret
  all_goals exact ⟨ret_int (by omega), rfl⟩

set_option maxHeartbeats 400000 in
theorem rfloor_any (a b : Int) (w : World) (h : -4503599627370496000 ≤ a) (h2 : a ≤ 4503599627370496000) (hb : 0 < b) (hb2 : b ≤ 4503599627370496000) :
    Calls Tryd.prog 86 #[.int .i64 a, .int .i64 b] w fun e w' => e = .returned (.int .i64 (a / b)) ∧ w = w' := by
  have q1 := (tdiv_abs _ hb h h2).1
  have q2 := (tdiv_abs _ hb h h2).2
  have p1 := (tdiv_mul_abs _ hb h h2).1
  have p2 := (tdiv_mul_abs _ hb h h2).2
  go_enter Tryd.func86, Tryd.ntmps86
  go_wp2_with fail
  · have ht : a < a.tdiv b * b := by assumption
    go_ret
    exact ⟨ret_int (floor_gt hb ht), rfl⟩
  · have ht : a.tdiv b * b ≤ a := by assumption
    go_ret
    exact ⟨ret_int (floor_le hb ht), rfl⟩


set_option maxHeartbeats 400000 in
theorem radd_any (a b : Int) (w : World) :
    Calls Tryd.prog 77 #[.int .i64 a, .int .i64 b] w fun e w' => e = .returned (.tuple #[.int .i64 (addF a b).1, .int .i64 (addF a b).2]) ∧ w = w' := by
  have ha := rin_any a
  have hb := rin_any b
  cases h : inR a
  · rw [h] at ha
    have H := Lib.hid h
    have HA := Lib.hid ha
    clear h ha hb
    go_enter Tryd.func77, Tryd.ntmps77
    go_wp2_with fail
    refine (HA.out _).mono ?_
    rintro e w1 ⟨rfl, rfl⟩
    go_wp2_with fail
    go_ret2
    exact ⟨ret_int2 (by simp [addF, H.out]) (by simp [addF, H.out]), rfl⟩
  · have h1 := (inR_iff.1 h).1
    have h2 := (inR_iff.1 h).2
    rw [h] at ha
    have H := Lib.hid h
    have HA := Lib.hid ha
    clear h ha
    cases h : inR b
    · rw [h] at hb
      have HH := Lib.hid h
      have HB := Lib.hid hb
      clear h hb
      go_enter Tryd.func77, Tryd.ntmps77
      go_wp2_with fail
      refine (HA.out _).mono ?_
      rintro e w1 ⟨rfl, rfl⟩
      go_wp2_with fail
      refine (HB.out _).mono ?_
      rintro e w1 ⟨rfl, rfl⟩
      go_wp2_with fail
      go_ret2
      exact ⟨ret_int2 (by simp [addF, H.out, HH.out]) (by simp [addF, H.out, HH.out]), rfl⟩
    · have h3 := (inR_iff.1 h).1
      have h4 := (inR_iff.1 h).2
      rw [h] at hb
      have HH := Lib.hid h
      have HB := Lib.hid hb
      clear h hb
      go_enter Tryd.func77, Tryd.ntmps77
      go_wp2_with fail
      refine (HA.out _).mono ?_
      rintro e w1 ⟨rfl, rfl⟩
      go_wp2_with fail
      refine (HB.out _).mono ?_
      rintro e w1 ⟨rfl, rfl⟩
      go_wp2_with fail
      refine (rchecked_any _ _).mono ?_
      rintro e w1 ⟨rfl, rfl⟩
      go_wp2_with fail
      go_ret2
      exact ⟨ret_int2 (by simp [addF, H.out, HH.out]) (by simp [addF, H.out, HH.out]), rfl⟩

set_option maxHeartbeats 400000 in
theorem rsub_any (a b : Int) (w : World) :
    Calls Tryd.prog 78 #[.int .i64 a, .int .i64 b] w fun e w' => e = .returned (.tuple #[.int .i64 (subF a b).1, .int .i64 (subF a b).2]) ∧ w = w' := by
  have ha := rin_any a
  have hb := rin_any b
  cases h : inR a
  · rw [h] at ha
    have H := Lib.hid h
    have HA := Lib.hid ha
    clear h ha hb
    go_enter Tryd.func78, Tryd.ntmps78
    go_wp2_with fail
    refine (HA.out _).mono ?_
    rintro e w1 ⟨rfl, rfl⟩
    go_wp2_with fail
    go_ret2
    exact ⟨ret_int2 (by simp [subF, H.out]) (by simp [subF, H.out]), rfl⟩
  · have h1 := (inR_iff.1 h).1
    have h2 := (inR_iff.1 h).2
    rw [h] at ha
    have H := Lib.hid h
    have HA := Lib.hid ha
    clear h ha
    cases h : inR b
    · rw [h] at hb
      have HH := Lib.hid h
      have HB := Lib.hid hb
      clear h hb
      go_enter Tryd.func78, Tryd.ntmps78
      go_wp2_with fail
      refine (HA.out _).mono ?_
      rintro e w1 ⟨rfl, rfl⟩
      go_wp2_with fail
      refine (HB.out _).mono ?_
      rintro e w1 ⟨rfl, rfl⟩
      go_wp2_with fail
      go_ret2
      exact ⟨ret_int2 (by simp [subF, H.out, HH.out]) (by simp [subF, H.out, HH.out]), rfl⟩
    · have h3 := (inR_iff.1 h).1
      have h4 := (inR_iff.1 h).2
      rw [h] at hb
      have HH := Lib.hid h
      have HB := Lib.hid hb
      clear h hb
      go_enter Tryd.func78, Tryd.ntmps78
      go_wp2_with fail
      refine (HA.out _).mono ?_
      rintro e w1 ⟨rfl, rfl⟩
      go_wp2_with fail
      refine (HB.out _).mono ?_
      rintro e w1 ⟨rfl, rfl⟩
      go_wp2_with fail
      refine (rchecked_any _ _).mono ?_
      rintro e w1 ⟨rfl, rfl⟩
      go_wp2_with fail
      go_ret2
      exact ⟨ret_int2 (by simp [subF, H.out, HH.out]) (by simp [subF, H.out, HH.out]), rfl⟩

set_option maxHeartbeats 400000 in
theorem rmul_any (a b : Int) (w : World) :
    Calls Tryd.prog 79 #[.int .i64 a, .int .i64 b] w fun e w' => e = .returned (.tuple #[.int .i64 (mulF a b).1, .int .i64 (mulF a b).2]) ∧ w = w' := by
  have ha := rin_any a
  have hb := rin_any b
  cases h : inR a
  · rw [h] at ha
    have H := Lib.hid h
    have HA := Lib.hid ha
    clear h ha hb
    go_enter Tryd.func79, Tryd.ntmps79
    go_wp2_with fail
    refine (HA.out _).mono ?_
    rintro e w1 ⟨rfl, rfl⟩
    go_wp2_with fail
    go_ret2
    exact ⟨ret_int2 (by simp [mulF, H.out]) (by simp [mulF, H.out]), rfl⟩
  · have h1 := (inR_iff.1 h).1
    have h2 := (inR_iff.1 h).2
    rw [h] at ha
    have H := Lib.hid h
    have HA := Lib.hid ha
    clear h ha
    cases h : inR b
    · rw [h] at hb
      have HH := Lib.hid h
      have HB := Lib.hid hb
      clear h hb
      go_enter Tryd.func79, Tryd.ntmps79
      go_wp2_with fail
      refine (HA.out _).mono ?_
      rintro e w1 ⟨rfl, rfl⟩
      go_wp2_with fail
      refine (HB.out _).mono ?_
      rintro e w1 ⟨rfl, rfl⟩
      go_wp2_with fail
      go_ret2
      exact ⟨ret_int2 (by simp [mulF, H.out, HH.out]) (by simp [mulF, H.out, HH.out]), rfl⟩
    · have h3 := (inR_iff.1 h).1
      have h4 := (inR_iff.1 h).2
      rw [h] at hb
      have HH := Lib.hid h
      have HB := Lib.hid hb
      clear h hb
      have hx := mulF_big h1 h2 h3 h4
      have e0 : (a == 0) = false ∨ a = 0 := by
        rcases Int.decEq a 0 with h | h
        · exact .inl (by simpa using h)
        · exact .inr h
      rcases e0 with e0 | rfl
      · have e1 : (a != 0) = true := by simpa using e0
        have e2 : a.natAbs ≠ 0 := by simpa using e0
        have e3 : (1 : Int) ≤ (a.natAbs : Int) := by omega
        have hq : (9007199254740992 / (a.natAbs : Int) < (b.natAbs : Int)) ↔ ¬ a.natAbs * b.natAbs ≤ 9007199254740992 := by
          have := Nat.le_div_iff_mul_le (k := a.natAbs) (x := b.natAbs) (y := 9007199254740992) (by omega)
          have hc : ((9007199254740992 / a.natAbs : Nat) : Int) = 9007199254740992 / (a.natAbs : Int) := Int.natCast_ediv _ _
          rw [Nat.mul_comm a.natAbs, ← this, ← hc, Int.ofNat_lt]
          omega
        have hra := rabs_any a
        have hrb := rabs_any b
        have HRA := Lib.hid hra
        have HRB := Lib.hid hrb
        clear hra hrb e0 e2
        by_cases hz : a.natAbs * b.natAbs ≤ 9007199254740992
        · have hin : inR (a * b) = true := by rw [hx]; simp [hz]
          have p1 := (inR_iff.1 hin).1
          have p2 := (inR_iff.1 hin).2
          have hq2 : ¬ 9007199254740992 / (a.natAbs : Int) < (b.natAbs : Int) := fun h => (hq.1 h) hz
          have hq3 : (b.natAbs : Int) ≤ 9007199254740992 / (a.natAbs : Int) := Int.not_lt.1 hq2
          have HI := Lib.hid hin
          clear hin hx hq hz hq2
          go_enter Tryd.func79, Tryd.ntmps79
          go_wp2_with fail
          refine (HA.out _).mono ?_
          rintro e w1 ⟨rfl, rfl⟩
          go_wp2_with fail
          refine (HB.out _).mono ?_
          rintro e w1 ⟨rfl, rfl⟩
          go_wp2_with fail
          refine (HRB.out _ h3 h4).mono ?_
          rintro e w1 ⟨rfl, rfl⟩
          go_wp2_with fail
          refine (HRA.out _ h1 h2).mono ?_
          generalize (b.natAbs : Int) = nb at *
          generalize (a.natAbs : Int) = na at *
          rintro e w1 ⟨rfl, rfl⟩
          go_wp2_with fail
          go_ret2
          exact ⟨ret_int2 (by simp [mulF, H.out, HH.out, rngF, HI.out]) (by simp [mulF, H.out, HH.out, rngF, HI.out]), rfl⟩
        · have hin : inR (a * b) = false := by rw [hx]; simp [hz]
          have hq2 : 9007199254740992 / (a.natAbs : Int) < (b.natAbs : Int) := hq.2 hz
          have HI := Lib.hid hin
          clear hin hx hq hz
          go_enter Tryd.func79, Tryd.ntmps79
          go_wp2_with fail
          refine (HA.out _).mono ?_
          rintro e w1 ⟨rfl, rfl⟩
          go_wp2_with fail
          refine (HB.out _).mono ?_
          rintro e w1 ⟨rfl, rfl⟩
          go_wp2_with fail
          refine (HRB.out _ h3 h4).mono ?_
          rintro e w1 ⟨rfl, rfl⟩
          go_wp2_with fail
          refine (HRA.out _ h1 h2).mono ?_
          generalize (b.natAbs : Int) = nb at *
          generalize (a.natAbs : Int) = na at *
          rintro e w1 ⟨rfl, rfl⟩
          go_wp2_with fail
          go_ret2
          exact ⟨ret_int2 (by simp [mulF, H.out, HH.out, rngF, HI.out]) (by simp [mulF, H.out, HH.out, rngF, HI.out]), rfl⟩
      · clear hx
        go_enter Tryd.func79, Tryd.ntmps79
        go_wp2_with fail
        refine (HA.out _).mono ?_
        rintro e w1 ⟨rfl, rfl⟩
        go_wp2_with fail
        refine (HB.out _).mono ?_
        rintro e w1 ⟨rfl, rfl⟩
        go_wp2_with fail
        go_ret2
        exact ⟨ret_int2 (by simp [mulF, H.out, HH.out, rngF]) (by simp [mulF, H.out, HH.out, rngF]), rfl⟩

set_option maxHeartbeats 400000 in
theorem rdiv_any (a b m : Int) (w : World) :
    Calls Tryd.prog 80 #[.int .i64 a, .int .i64 b, .int .i64 m] w fun e w' => e = .returned (.tuple #[.int .i64 (divF a b m).1, .int .i64 (divF a b m).2]) ∧ w = w' := by
  by_cases hm : m < 8 ∨ 10 < m
  · have HM := Lib.hid hm
    rcases hm with hm | hm
    all_goals
      go_enter Tryd.func80, Tryd.ntmps80
      go_wp2_with fail
      go_ret2
      exact ⟨ret_int2 (by simp only [divF, if_pos HM.out]) (by simp only [divF, if_pos HM.out]), rfl⟩
  · have HM := Lib.hid hm
    have hm3 : m = 8 ∨ m = 9 ∨ m = 10 := by omega
    clear hm
    have ha := rin_any a
    have hb := rin_any b
    cases h : inR a
    · rw [h] at ha
      have H := Lib.hid h
      have HA := Lib.hid ha
      clear h ha hb
      rcases hm3 with rfl | rfl | rfl
      all_goals
        go_enter Tryd.func80, Tryd.ntmps80
        go_wp2_with fail
        refine (HA.out _).mono ?_
        rintro e w1 ⟨rfl, rfl⟩
        go_wp2_with fail
        go_ret2
        exact ⟨ret_int2 (by simp [divF, H.out]) (by simp [divF, H.out]), rfl⟩
    · have h1 := (inR_iff.1 h).1
      have h2 := (inR_iff.1 h).2
      rw [h] at ha
      have H := Lib.hid h
      have HA := Lib.hid ha
      clear h ha
      cases h : inR b
      · rw [h] at hb
        have HH := Lib.hid h
        have HB := Lib.hid hb
        clear h hb
        rcases hm3 with rfl | rfl | rfl
        all_goals
          go_enter Tryd.func80, Tryd.ntmps80
          go_wp2_with fail
          refine (HA.out _).mono ?_
          rintro e w1 ⟨rfl, rfl⟩
          go_wp2_with fail
          refine (HB.out _).mono ?_
          rintro e w1 ⟨rfl, rfl⟩
          go_wp2_with fail
          go_ret2
          exact ⟨ret_int2 (by simp [divF, H.out, HH.out]) (by simp [divF, H.out, HH.out]), rfl⟩
      · have h3 := (inR_iff.1 h).1
        have h4 := (inR_iff.1 h).2
        rw [h] at hb
        have HH := Lib.hid h
        have HB := Lib.hid hb
        clear h hb
        by_cases hb0 : b ≤ 0
        · have HB0 := Lib.hid hb0
          rcases hm3 with rfl | rfl | rfl
          all_goals
            go_enter Tryd.func80, Tryd.ntmps80
            go_wp2_with fail
            refine (HA.out _).mono ?_
            rintro e w1 ⟨rfl, rfl⟩
            go_wp2_with fail
            refine (HB.out _).mono ?_
            rintro e w1 ⟨rfl, rfl⟩
            go_wp2_with fail
            go_ret2
            exact ⟨ret_int2 (by simp [divF, H.out, HH.out, HB0.out]) (by simp [divF, H.out, HH.out, HB0.out]), rfl⟩
        · have hb1 : 0 < b := by omega
          clear hb0
          rcases hm3 with rfl | rfl | rfl
          all_goals
            go_enter Tryd.func80, Tryd.ntmps80
            go_wp2_with fail
            refine (HA.out _).mono ?_
            rintro e w1 ⟨rfl, rfl⟩
            go_wp2_with fail
            refine (HB.out _).mono ?_
            rintro e w1 ⟨rfl, rfl⟩
            go_wp2_with fail
            refine (rfloor_any _ _ _ (by omega) (by omega) (by omega) (by omega)).mono ?_
            rintro e w1 ⟨rfl, rfl⟩
            first
              | (have q1 := (down_abs _ (show 0 < b by omega) h1 h2).1
                 have q2 := (down_abs _ (show 0 < b by omega) h1 h2).2
                 have q3 := (down_abs (a := -a) 9007199254740992 (show 0 < b by omega) (by omega) (by omega)).1
                 have q4 := (down_abs (a := -a) 9007199254740992 (show 0 < b by omega) (by omega) (by omega)).2)
            go_wp2_with fail
            go_ret2
            exact ⟨ret_int2 (by simp [divF, H.out, HH.out, Int.not_le.2 hb1]) (by simp [divF, H.out, HH.out, Int.not_le.2 hb1]), rfl⟩
end Go.Proofs.YtcaomfbcchemnaaDoor
