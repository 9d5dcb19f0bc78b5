/- What Holds of teval and of the reference return. -/
import Derived.Test.YtophdbbbojnobaaProg
import Derived.Test.YtophdbbbojnobaaEvalW
import Derived.Test.YtophdbbbojnobaaTariff
namespace Go.Proofs.Ytophdbbbojnobaa
open Go.RowKit
set_option linter.unusedVariables false

theorem info_test : (Try.prog.info? 58).map (·.size) = some 3 := by kernel_rfl

theorem holdsF_drop (x : Ev) (l : List Tst) (k : Nat) (h : k < l.length) : holdsF x (l.drop k) = if l[k].a < 0 ∨ 16 ≤ l[k].a then (false, 1) else if (loadF x l[k].a.toNat).2 ≠ 0 then (false, (loadF x l[k].a.toNat).2) else
      if (loadF x l[k].a.toNat).1 < l[k].lo ∨ l[k].hi < (loadF x l[k].a.toNat).1 then (false, 0) else holdsF x (l.drop (k + 1)) := by
  rw [List.drop_eq_getElem_cons h]; rfl

set_option maxHeartbeats 2000000 in
theorem holdsR_any (x : Ev) (hx : x.ok) (cs : List Value) (c : Cl) (w : World) (hc : ClIn w cs c) :
    Calls Try.prog 17 #[.agg cs.toArray, .agg x.cells.toArray] w fun en w' => en = .returned (.tuple #[.bool (holdsF x c.tests).1, .int .i64 (holdsF x c.tests).2]) ∧ Ext w w' := by
  have HXL := Lib.hid (show x.cells.length = 17 by simp [Ev.cells, hx.1])
  obtain ⟨sv, ps, rfl, hs, d, he⟩ := hc
  obtain ⟨A0, cap0, u0, u1, u2, u3, rfl, _⟩ := he.open_
  obtain ⟨A, cap, rfl, hlen, hcap, HEL⟩ := hs.open_
  obtain ⟨r, hr⟩ : ∃ r, holdsF x c.tests = r := ⟨_, rfl⟩
  rw [hr]
  have HR := Lib.hid hr
  clear hr he hs
  generalize c.tests = l at *
  generalize hn : l.length = n at *
  have HN := Lib.hid hn
  clear hn
  go_enter Try.func17, Try.ntmps17
  go_wp2_with fail
  generalize hw0 : World.alloc _ _ = w0
  have hx0 : Ext w w0 := by rw [← hw0]; exact ((Ext.refl _).alloc _).alloc _
  have hc1 : w0.cell? ⟨w.heap.size, 1, none⟩ = some (.slice A n cap) := by rw [← hw0]; simp [go_sem]
  have hr3 : w0.rangeAt (w.heap.size + 1) 0 x.cells := by rw [← hw0]; intro j v hv; simp [go_sem, hv]
  clear hw0
  go_loopw [6] (fun i wr => ∃ k : Nat, k ≤ n ∧ i = .int .i64 k ∧ Hid (holdsF x (l.drop k) = r) ∧ Ext w0 wr) (fun i _ => n - (intOf i).toNat)
  case atStart => exact ⟨0, Nat.zero_le _, rfl, HR.out, Ext.refl _⟩
  case round =>
    obtain ⟨k, hk, rfl, HK, hxr⟩ := hrel
    have hc2 := hxr.cell hc1
    by_cases hlt : k < n
    · have hlk : k < l.length := by rw [HN.out]; exact hlt
      obtain ⟨b, o, cs1, rfl, hb, hl1, hr1, rfl, i1, i2, i3⟩ := HEL.out k l[k] (List.getElem?_eq_getElem hlk)
      have hrr := hxr.range (hx0.range hr1)
      have hst := holdsF_drop x l k hlk
      rw [HK.out] at hst
      have hta : I64 l[k].a := i1
      have hrx : ∀ o, (wr.alloc o).rangeAt (w.heap.size + 1) 0 x.cells := fun o => ((hxr.alloc o).range hr3)
      have HRX := Lib.hid hrx
      generalize l[k].a = ta at *
      generalize l[k].lo = lo at *
      generalize l[k].hi = hi at *
      have HS := Lib.hid hst
      clear hst hr1 HK hl1 hlk hrx i1 i2 i3
      by_cases h1 : ta < 0 ∨ 16 ≤ ta
      · have HS2 := Lib.hid (show r = (false, 1) by rw [HS.out, if_pos h1])
        clear HS
        rcases h1 with h1 | h1
        all_goals
          go_wp2_with (refine wpList_load_mid rfl 58 _ rfl b (o + k * 3) rfl _ _ hrr Try.underlying58 rfl info_test ?_)
          go_ret2
          exact ⟨ret_bi (by rw [HS2.out]) (by rw [HS2.out]), hx0.trans (hxr.alloc _)⟩
      · have hs := HS.out
        rw [if_neg h1] at hs
        obtain ⟨a, rfl⟩ := Int.eq_ofNat_of_zero_le (show 0 ≤ ta by omega)
        rw [Int.toNat_natCast] at hs
        have ha : a < 16 := by omega
        have hd1 : (0 : Int) ≤ (a : Int) := by omega
        have hd2 : (a : Int) < 16 := by omega
        have hload := fun W => loadR_any x a W hx ha
        generalize loadF x a = q at *
        have HLO := Lib.hid hload
        obtain ⟨q1, q2⟩ := q
        clear HS hload h1
        by_cases hq : q2 = 0
        · subst hq
          rw [if_neg (by simp)] at hs
          have hq3 : q1 < lo ∨ hi < q1 ∨ (lo ≤ q1 ∧ q1 ≤ hi) := by omega
          rcases hq3 with h1 | h1 | ⟨h1, h2⟩
          · have HS2 := Lib.hid (show r = (false, 0) by rw [hs, if_pos (Or.inl h1)])
            clear hs
            go_wp2_with (first
              | (refine wpList_load_mid rfl 58 _ rfl b (o + k * 3) rfl _ _ hrr Try.underlying58 rfl info_test ?_)
              | (refine wpList_load_mid rfl 29 _ rfl (w.heap.size + 1) 0 rfl x.cells _ (HRX.out _) Try.underlying29 rfl (by rw [HXL.out]; exact info_env) ?_))
            refine (HLO.out _).mono ?_
            rintro e1 w1 ⟨rfl, hx1⟩
            have c0 := hx1.cell (p := ⟨wr.heap.size, 0, none⟩) (v := .int .i64 a) (by simp [go_sem])
            have c1 := hx1.cell (p := ⟨wr.heap.size, 1, none⟩) (v := .int .i64 lo) (by simp [go_sem])
            have c2 := hx1.cell (p := ⟨wr.heap.size, 2, none⟩) (v := .int .i64 hi) (by simp [go_sem])
            go_wp2_with fail
            go_ret2
            exact ⟨ret_bi (by rw [HS2.out]) (by rw [HS2.out]), hx0.trans ((hxr.alloc _).trans hx1)⟩
          · have HS2 := Lib.hid (show r = (false, 0) by rw [hs, if_pos (Or.inr h1)])
            clear hs
            go_wp2_with (first
              | (refine wpList_load_mid rfl 58 _ rfl b (o + k * 3) rfl _ _ hrr Try.underlying58 rfl info_test ?_)
              | (refine wpList_load_mid rfl 29 _ rfl (w.heap.size + 1) 0 rfl x.cells _ (HRX.out _) Try.underlying29 rfl (by rw [HXL.out]; exact info_env) ?_))
            refine (HLO.out _).mono ?_
            rintro e1 w1 ⟨rfl, hx1⟩
            have c0 := hx1.cell (p := ⟨wr.heap.size, 0, none⟩) (v := .int .i64 a) (by simp [go_sem])
            have c1 := hx1.cell (p := ⟨wr.heap.size, 1, none⟩) (v := .int .i64 lo) (by simp [go_sem])
            have c2 := hx1.cell (p := ⟨wr.heap.size, 2, none⟩) (v := .int .i64 hi) (by simp [go_sem])
            go_wp2_with fail
            all_goals go_ret2
            all_goals exact ⟨ret_bi (by rw [HS2.out]) (by rw [HS2.out]), hx0.trans ((hxr.alloc _).trans hx1)⟩
          · have HS2 := Lib.hid (show r = holdsF x (l.drop (k + 1)) by rw [hs, if_neg (by omega)])
            clear hs
            go_wp2_with (first
              | (refine wpList_load_mid rfl 58 _ rfl b (o + k * 3) rfl _ _ hrr Try.underlying58 rfl info_test ?_)
              | (refine wpList_load_mid rfl 29 _ rfl (w.heap.size + 1) 0 rfl x.cells _ (HRX.out _) Try.underlying29 rfl (by rw [HXL.out]; exact info_env) ?_))
            refine (HLO.out _).mono ?_
            rintro e1 w1 ⟨rfl, hx1⟩
            have c0 := hx1.cell (p := ⟨wr.heap.size, 0, none⟩) (v := .int .i64 a) (by simp [go_sem])
            have c1 := hx1.cell (p := ⟨wr.heap.size, 1, none⟩) (v := .int .i64 lo) (by simp [go_sem])
            have c2 := hx1.cell (p := ⟨wr.heap.size, 2, none⟩) (v := .int .i64 hi) (by simp [go_sem])
            go_wp2_with fail
            go_roundw
            case rel => exact ⟨k + 1, by omega, by go_num, HS2.out.symm, (hxr.alloc _).trans hx1⟩
            case measure => simp [intOf]; omega
        · have hq' : (q2 != 0) = true := by rw [bne_iff_ne]; exact hq
          have HS2 := Lib.hid (show r = (false, q2) by rw [hs, if_pos hq])
          clear hs hq
          go_wp2_with (first
            | (refine wpList_load_mid rfl 58 _ rfl b (o + k * 3) rfl _ _ hrr Try.underlying58 rfl info_test ?_)
            | (refine wpList_load_mid rfl 29 _ rfl (w.heap.size + 1) 0 rfl x.cells _ (HRX.out _) Try.underlying29 rfl (by rw [HXL.out]; exact info_env) ?_))
          refine (HLO.out _).mono ?_
          rintro e1 w1 ⟨rfl, hx1⟩
          go_wp2_with fail
          go_ret2
          exact ⟨ret_bi (by rw [HS2.out]) (by rw [HS2.out]), hx0.trans ((hxr.alloc _).trans hx1)⟩
    · have HS2 := Lib.hid (show r = (true, 0) by rw [← HK.out, List.drop_of_length_le (by rw [HN.out]; omega)]; rfl)
      clear HK
      go_wp2_with fail
      go_ret2
      exact ⟨ret_bi (by rw [HS2.out]) (by rw [HS2.out]), hx0.trans hxr⟩

set_option maxHeartbeats 2000000 in
theorem holdsT_any (x : Ev) (hx : x.ok) (cs : List Value) (c : Cl) (w : World) (hc : ClIn w cs c) :
    Calls Try.prog 16 #[.agg cs.toArray, .agg x.cells.toArray] w fun en w' => en = .returned (.tuple #[.bool (holdsF x c.tests).1, .int .i64 (holdsF x c.tests).2]) ∧ Ext w w' := by
  have HXL := Lib.hid (show x.cells.length = 17 by simp [Ev.cells, hx.1])
  obtain ⟨sv, ps, rfl, hs, d, he⟩ := hc
  obtain ⟨A0, cap0, u0, u1, u2, u3, rfl, _⟩ := he.open_
  obtain ⟨A, cap, rfl, hlen, hcap, HEL⟩ := hs.open_
  obtain ⟨r, hr⟩ : ∃ r, holdsF x c.tests = r := ⟨_, rfl⟩
  rw [hr]
  have HR := Lib.hid hr
  clear hr he hs
  generalize c.tests = l at *
  generalize hn : l.length = n at *
  have HN := Lib.hid hn
  clear hn
  have hr30 : ∀ o, (((w.alloc o).alloc (.cells x.cells.toArray 29)).alloc (.cells #[.int .i64 0] 32)).rangeAt (w.heap.size + 1) 0 x.cells := by
    intro o j v hv; simp [go_sem, hv]
  have HR3 := Lib.hid hr30
  clear hr30
  go_enter_defers Try.func16, Try.ntmps16
  go_wp2_with (refine wpList_load_mid rfl 29 _ rfl (w.heap.size + 1) 0 rfl x.cells _ (HR3.out _) Try.underlying29 rfl (by rw [HXL.out]; exact info_env) ?_)
  refine (newEv_any x _ hx).mono ?_
  rintro e1 w1 ⟨rfl, hx1, hX⟩
  have hx0 := ((((Ext.refl w).alloc _).alloc _).alloc _).trans hx1
  have hc1 := hx1.cell (p := ⟨w.heap.size, 1, none⟩) (v := .slice A n cap) (by simp [go_sem])
  have hc5 := hx1.cell (p := ⟨w.heap.size + 1 + 1, 0, none⟩) (v := .int .i64 0) (by simp [go_sem])
  have hz5 := hx1.frozen_eq (p := ⟨w.heap.size + 1 + 1, 0, none⟩) (by simp)
  have hz5' : w1.frozen? ⟨w.heap.size + 1 + 1, 0, none⟩ = false := by rw [hz5]; simp [go_sem]
  have hsz := hx1.size
  simp at hsz
  generalize hXe : World.heap _ = Hp at hX
  generalize Hp.size + 1 = X at hX
  clear hx1 hz5 HR3 hXe
  go_wp2_with fail
  go_loopw [4, 15] (fun b4 i wr => ∃ k : Nat, k ≤ n ∧ b4 = .bool false ∧ i = .int .i64 k ∧ Hid (holdsF x (l.drop k) = r) ∧ Ext w1 wr) (fun _ i _ => n - (intOf i).toNat)
  case atStart => exact ⟨0, Nat.zero_le _, rfl, rfl, HR.out, Ext.refl _⟩
  case round =>
    obtain ⟨k, hk, rfl, rfl, HK, hxr⟩ := hrel
    by_cases hlt : k < n
    · have hlk : k < l.length := by rw [HN.out]; exact hlt
      obtain ⟨b, o, cs1, rfl, hb, hl1, hr1, rfl, i1, i2, i3⟩ := HEL.out k l[k] (List.getElem?_eq_getElem hlk)
      have hrr := hxr.range (hx0.range hr1)
      have hst := holdsF_drop x l k hlk
      rw [HK.out] at hst
      have hta : I64 l[k].a := i1
      have hX2 := fun o => hX.ext (hxr.alloc o)
      have HX2 := Lib.hid hX2
      generalize l[k].a = ta at *
      generalize l[k].lo = lo at *
      generalize l[k].hi = hi at *
      have HS := Lib.hid hst
      clear hst hr1 HK hl1 hlk i1 i2 i3 hX2
      by_cases h1 : ta < 0 ∨ 16 ≤ ta
      · have HS2 := Lib.hid (show r = (false, 1) by rw [HS.out, if_pos h1])
        clear HS
        have hld : ∀ W, Calls Try.prog 33 #[.pointer (some ⟨X, 0, none⟩), .int .i64 ta] W fun en w' => en = .panicked (fchain 1) ∧ Ext W w' :=
          fun W => (loadT_out ta X W h1).mono fun _ _ h => ⟨h.1, h.2 ▸ Ext.refl _⟩
        have HLO := Lib.hid hld
        clear hld
        go_wp2_with (refine wpList_load_mid rfl 58 _ rfl b (o + k * 3) rfl _ _ hrr Try.underlying58 rfl info_test ?_)
        refine (HLO.out _).mono ?_
        rintro e1 w2 ⟨rfl, hx2⟩
        have hx12 : Ext w1 w2 := (hxr.alloc _).trans hx2
        clear hx2
        have g5 := Ext.cell (hx12) hc5
        have gz : World.frozen? w2 ⟨w.heap.size + 1 + 1, 0, none⟩ = false := by rw [Ext.frozen_eq (hx12) (by simp; omega)]; exact hz5'
        have glt : w.heap.size + 1 + 1 < (w2).heap.size := by have := Ext.size (hx12); omega
        go_wp2_with fail
        refine leaves_cons (f := 29) (args := #[.pointer (some ⟨w.heap.size + 1 + 1, 0, none⟩)]) (by simp) (by simp [go_sem]) ((caught_fault _ 0 1 _ g5 gz glt).mono ?_)
        rintro en u' w'' ⟨rfl, rfl, rfl⟩
        have hsame : ((World.alloc w2 (.cells #[.int .i64 1] 73)).setCell ⟨w.heap.size + 1 + 1, 0, none⟩ (.int .i64 1)).cell? ⟨w.heap.size + 1 + 1, 0, none⟩ = some (.int .i64 1) :=
          World.cell?_setCell_same' _ _ _ (by rw [World.cell?_alloc_lt w2 _ _ glt, g5]; rfl)
        simp only [settle, List.dropWhile]
        exact ⟨.tuple #[.bool false, .int .i64 1], by simp [results, Try.results16, go_sem, hsame], ret_bi (by rw [HS2.out]) (by rw [HS2.out]), Ext.setCell (Ext.alloc (hx0.trans hx12) _) (by simp; omega) _⟩
      · have hs := HS.out
        rw [if_neg h1] at hs
        obtain ⟨a, rfl⟩ := Int.eq_ofNat_of_zero_le (show 0 ≤ ta by omega)
        rw [Int.toNat_natCast] at hs
        have ha : a < 16 := by omega
        have hload := fun o => loadT_in x a X _ hx (HX2.out o) ha
        generalize loadF x a = q at *
        have HLO := Lib.hid hload
        obtain ⟨q1, q2⟩ := q
        clear HS hload h1 ha
        by_cases hq : q2 = 0
        · subst hq
          rw [if_neg (by simp)] at hs
          have hq3 : q1 < lo ∨ hi < q1 ∨ (lo ≤ q1 ∧ q1 ≤ hi) := by omega
          have hs2 : (q1 < lo ∨ hi < q1 → r = (false, 0)) ∧ (lo ≤ q1 ∧ q1 ≤ hi → r = holdsF x (l.drop (k + 1))) :=
            ⟨fun h => by rw [hs, if_pos h], fun h => by rw [hs, if_neg (by omega)]⟩
          have HS2 := Lib.hid hs2
          clear hs hs2
          go_wp2_with (refine wpList_load_mid rfl 58 _ rfl b (o + k * 3) rfl _ _ hrr Try.underlying58 rfl info_test ?_)
          refine (HLO.out _).mono ?_
          rintro e1 w2 ⟨⟨_, rfl⟩ | ⟨h0, rfl⟩, hx2⟩
          · have c1 := hx2.cell (p := ⟨wr.heap.size, 1, none⟩) (v := .int .i64 lo) (by simp [go_sem])
            have c2 := hx2.cell (p := ⟨wr.heap.size, 2, none⟩) (v := .int .i64 hi) (by simp [go_sem])
            have hx12 : Ext w1 w2 := (hxr.alloc _).trans hx2
            clear hx2
            have g5 := Ext.cell (hx12) hc5
            have gz : World.frozen? w2 ⟨w.heap.size + 1 + 1, 0, none⟩ = false := by rw [Ext.frozen_eq (hx12) (by simp; omega)]; exact hz5'
            have glt : w.heap.size + 1 + 1 < (w2).heap.size := by have := Ext.size (hx12); omega
            rcases hq3 with h1 | h1 | ⟨h1, h2⟩
            · have HS3 := Lib.hid (HS2.out.1 (.inl h1))
              go_wp2_with fail
              have hsame : (World.setCell w2 ⟨w.heap.size + 1 + 1, 0, none⟩ (.int .i64 0)).cell? ⟨w.heap.size + 1 + 1, 0, none⟩ = some (.int .i64 0) := World.cell?_setCell_same' _ _ _ (by rw [g5]; rfl)
              refine leaves_cons (f := 29) (args := #[.pointer (some ⟨w.heap.size + 1 + 1, 0, none⟩)]) (by simp) (by simp [go_sem]) ((caught_idle _ _).mono ?_)
              rintro en u' w'' ⟨rfl, rfl, rfl⟩
              exact ⟨.tuple #[.bool false, .int .i64 0], by simp [results, Try.results16, go_sem, hsame], ret_bi (by rw [HS3.out]) (by rw [HS3.out]), Ext.setCell (hx0.trans hx12) (by simp; omega) _⟩
            · have HS3 := Lib.hid (HS2.out.1 (.inr h1))
              by_cases h0 : q1 < lo
              all_goals
                go_wp2_with fail
                have hsame : (World.setCell w2 ⟨w.heap.size + 1 + 1, 0, none⟩ (.int .i64 0)).cell? ⟨w.heap.size + 1 + 1, 0, none⟩ = some (.int .i64 0) := World.cell?_setCell_same' _ _ _ (by rw [g5]; rfl)
                refine leaves_cons (f := 29) (args := #[.pointer (some ⟨w.heap.size + 1 + 1, 0, none⟩)]) (by simp) (by simp [go_sem]) ((caught_idle _ _).mono ?_)
                rintro en u' w'' ⟨rfl, rfl, rfl⟩
                exact ⟨.tuple #[.bool false, .int .i64 0], by simp [results, Try.results16, go_sem, hsame], ret_bi (by rw [HS3.out]) (by rw [HS3.out]), Ext.setCell (hx0.trans hx12) (by simp; omega) _⟩
            · have HS3 := Lib.hid (HS2.out.2 ⟨h1, h2⟩)
              go_wp2_with fail
              go_roundw
              case rel => exact ⟨k + 1, by omega, rfl, by go_num, HS3.out.symm, hx12⟩
              case measure => simp [intOf]; omega
          · exact absurd rfl h0
        · have HS2 := Lib.hid (show r = (false, q2) by rw [hs, if_pos hq])
          have HQ := Lib.hid hq
          clear hs hq
          go_wp2_with (refine wpList_load_mid rfl 58 _ rfl b (o + k * 3) rfl _ _ hrr Try.underlying58 rfl info_test ?_)
          refine (HLO.out _).mono ?_
          rintro e1 w2 ⟨⟨h0, rfl⟩ | ⟨h0, rfl⟩, hx2⟩
          · exact absurd h0 HQ.out
          · have hx12 : Ext w1 w2 := (hxr.alloc _).trans hx2
            clear hx2 h0
            have g5 := Ext.cell (hx12) hc5
            have gz : World.frozen? w2 ⟨w.heap.size + 1 + 1, 0, none⟩ = false := by rw [Ext.frozen_eq (hx12) (by simp; omega)]; exact hz5'
            have glt : w.heap.size + 1 + 1 < (w2).heap.size := by have := Ext.size (hx12); omega
            go_wp2_with fail
            refine leaves_cons (f := 29) (args := #[.pointer (some ⟨w.heap.size + 1 + 1, 0, none⟩)]) (by simp) (by simp [go_sem]) ((caught_fault _ 0 q2 _ g5 gz glt).mono ?_)
            rintro en u' w'' ⟨rfl, rfl, rfl⟩
            have hsame : ((World.alloc w2 (.cells #[.int .i64 q2] 73)).setCell ⟨w.heap.size + 1 + 1, 0, none⟩ (.int .i64 q2)).cell? ⟨w.heap.size + 1 + 1, 0, none⟩ = some (.int .i64 q2) :=
              World.cell?_setCell_same' _ _ _ (by rw [World.cell?_alloc_lt w2 _ _ glt, g5]; rfl)
            simp only [settle, List.dropWhile]
            exact ⟨.tuple #[.bool false, .int .i64 q2], by simp [results, Try.results16, go_sem, hsame], ret_bi (by rw [HS2.out]) (by rw [HS2.out]), Ext.setCell (Ext.alloc (hx0.trans hx12) _) (by simp; omega) _⟩
    · have HS2 := Lib.hid (show r = (true, 0) by rw [← HK.out, List.drop_of_length_le (by rw [HN.out]; omega)]; rfl)
      clear HK
      have g5 := Ext.cell (hxr) hc5
      have gz : World.frozen? wr ⟨w.heap.size + 1 + 1, 0, none⟩ = false := by rw [Ext.frozen_eq (hxr) (by simp; omega)]; exact hz5'
      have glt : w.heap.size + 1 + 1 < (wr).heap.size := by have := Ext.size (hxr); omega
      go_wp2_with fail
      have hsame : (World.setCell wr ⟨w.heap.size + 1 + 1, 0, none⟩ (.int .i64 0)).cell? ⟨w.heap.size + 1 + 1, 0, none⟩ = some (.int .i64 0) := World.cell?_setCell_same' _ _ _ (by rw [g5]; rfl)
      refine leaves_cons (f := 29) (args := #[.pointer (some ⟨w.heap.size + 1 + 1, 0, none⟩)]) (by simp) (by simp [go_sem]) ((caught_idle _ _).mono ?_)
      rintro en u' w'' ⟨rfl, rfl, rfl⟩
      exact ⟨.tuple #[.bool true, .int .i64 0], by simp [results, Try.results16, go_sem, hsame], ret_bi (by rw [HS2.out]) (by rw [HS2.out]), Ext.setCell (hx0.trans hxr) (by simp; omega) _⟩
end Go.Proofs.Ytophdbbbojnobaa
