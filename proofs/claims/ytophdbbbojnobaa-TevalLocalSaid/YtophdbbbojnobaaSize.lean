/- What the functions over expressions that only look at their form return: Size, Operands, Formed of the reference, operands, formed of teval. -/
import Derived.Test.YtophdbbbojnobaaProg
import Derived.Test.YtophdbbbojnobaaExpr
import Derived.Deep.QuietTactic
import Derived.BigQuiet
import Derived.StillTailTactics
namespace Go.Proofs.Ytophdbbbojnobaa
open Go.RowKit
set_option linter.unusedVariables false

theorem info_expr : (Try.prog.info? 26).map (·.size) = some 7 := by kernel_rfl

set_option maxHeartbeats 1000000 in
theorem size_any (f : Nat) : ∀ (limit : Nat) (d : Nat) (cs : List Value) (e : Ex) (w : World), 1 ≤ limit → limit ≤ f → limit ≤ 100000 → ExIn w d cs e →
    Calls Try.prog 27 #[.agg cs.toArray, .int .i64 limit] w fun en w' => en = .returned (.int .i64 (sizeF (f + 1) e limit)) ∧ Ext w w' := by
  induction f with
  | zero => intro limit d cs e w h1 h2; omega
  | succ f ih =>
    intro limit d cs e w h1 h2 h3 he
    have ih' := Lib.hid ih
    clear ih
    have hfin : sizeF (f + 1 + 1) e limit = sizeL (sizeF (f + 1)) e.l 1 limit := rfl
    rw [hfin]
    clear hfin
    obtain ⟨A, cap, u0, u1, u2, u3, rfl, _, _, hlen, hcap, hel⟩ := he.open_
    generalize e.l = l at *
    generalize hn : l.length = n at *
    have HN := Lib.hid hn
    have HEL := Lib.hid hel
    clear hn hel he
    go_enter Try.func27, Try.ntmps27
    go_wp2_with fail
    generalize hw0 : w.alloc _ = w0
    have hx0 : Ext w w0 := by rw [← hw0]; exact (Ext.refl _).alloc _
    have hc0 : w0.cell? ⟨w.heap.size, 6, none⟩ = some (.slice A n cap) := by rw [← hw0]; simp [go_sem]
    clear hw0
    go_loopw [5, 6] (fun n5 i wr => ∃ k q : Nat, k ≤ n ∧ i = .int .i64 k ∧ n5 = .int .i64 q ∧ 1 ≤ q ∧ q ≤ limit ∧ Hid (sizeL (sizeF (f + 1)) (l.drop k) q limit = sizeL (sizeF (f + 1)) l 1 limit) ∧ Ext w0 wr) (fun _ i _ => n - (intOf i).toNat)
    case atStart => exact ⟨0, 1, Nat.zero_le _, rfl, rfl, Nat.le_refl _, h1, rfl, Ext.refl _⟩
    case round =>
      obtain ⟨k, q, hk, rfl, rfl, hq1, hq2, HR, hx⟩ := hrel
      have hc := hx.cell hc0
      by_cases hlt : k < n
      · by_cases hql : q < limit
        · obtain ⟨b, o, rfl, hb, hi⟩ := HEL.out (by omega)
          have hlk : k < l.length := by rw [HN.out]; exact hlt
          obtain ⟨cs1, hl1, hr1, hE1⟩ := hi k l[k] (List.getElem?_eq_getElem hlk)
          have hE2 := (hE1.ext hx0).ext hx
          have hr2 := hx.range (hx0.range hr1)
          have HL1 := Lib.hid hl1
          have hsz := sizeF_le (f + 1) l[k] (limit - q) (by omega)
          have hstep : sizeL (sizeF (f + 1)) (l.drop k) q limit = sizeL (sizeF (f + 1)) (l.drop (k + 1)) (q + sizeF (f + 1) l[k] (limit - q)) limit := by
            rw [List.drop_eq_getElem_cons hlk]
            simp only [sizeL, if_pos hql]
          have hcall := Lib.hid (ih'.out (limit - q) _ cs1 l[k] _ (by omega) (by omega) (by omega) hE2)
          have hcast : ((limit - q : Nat) : Int) = (limit : Int) - q := by omega
          rw [hcast] at hcall
          have HC := hcall
          have HS := Lib.hid hstep
          clear hstep hcall hcast hi hr1 hE1 hE2 hl1
          generalize sizeF (f + 1) l[k] (limit - q) = m at *
          go_wp2_with (refine wpList_load_mid rfl 26 _ rfl b (o + k * 7) rfl cs1 _ hr2 Try.underlying26 rfl (by rw [HL1.out]; exact info_expr) ?_)
          refine HC.out.mono ?_
          rintro e1 w1 ⟨rfl, hx1⟩
          go_wp2_with fail
          go_roundw
          case rel => exact ⟨k + 1, q + m, by omega, by go_num, by go_num, by omega, by omega, HS.out.symm.trans HR.out, hx.trans hx1⟩
          case measure => simp [intOf]; omega
        · have hst : sizeL (sizeF (f + 1)) (l.drop k) q limit = q := sizeL_stop _ hql
          rw [hst] at HR
          clear hst
          go_wp2_with fail
          go_ret
          exact ⟨ret_int (by rw [HR.out]), hx0.trans hx⟩
      · have hst : sizeL (sizeF (f + 1)) (l.drop k) q limit = q := by
          rw [List.drop_of_length_le (by rw [HN.out]; omega)]; rfl
        rw [hst] at HR
        clear hst
        go_wp2_with fail
        go_ret
        exact ⟨ret_int (by rw [HR.out]), hx0.trans hx⟩

/-- few: fewer than 2000 nodes -/
def fewF (e : Ex) : Bool := decide (sizeF 2001 e 2000 < 2000)

set_option maxHeartbeats 400000 in
theorem opsT_any (op : Int) (w : World) : Calls Try.prog 40 #[.int .i64 op] w fun en w' => en = .returned (.int .i64 (opsF op)) ∧ w = w' := by
  by_cases h1 : op < 1
  · go_enter Try.func40, Try.ntmps40
    go_wp2_with fail
    go_ret
    exact ⟨ret_int (by unfold opsF; rw [if_pos (by omega)]), rfl⟩
  · by_cases h2 : 11 < op
    · go_enter Try.func40, Try.ntmps40
      go_wp2_with fail
      go_ret
      exact ⟨ret_int (by unfold opsF; rw [if_pos (by omega)]), rfl⟩
    · have h3 : op = 1 ∨ op = 2 ∨ op = 3 ∨ op = 4 ∨ op = 5 ∨ op = 6 ∨ op = 7 ∨ op = 8 ∨ op = 9 ∨ op = 10 ∨ op = 11 := by omega
      clear h1 h2
      rcases h3 with rfl | rfl | rfl | rfl | rfl | rfl | rfl | rfl | rfl | rfl | rfl
      all_goals
        go_enter Try.func40, Try.ntmps40
        go_wp2_with fail
        go_ret
        exact ⟨ret_int (by decide), rfl⟩

set_option maxHeartbeats 400000 in
theorem opsR_any (op : Int) (w : World) : Calls Try.prog 35 #[.int .i64 op] w fun en w' => en = .returned (.int .i64 (opsF op)) ∧ w = w' := by
  by_cases h1 : op < 1
  · go_enter Try.func35, Try.ntmps35
    go_wp2_with fail
    go_ret
    exact ⟨ret_int (by unfold opsF; rw [if_pos (by omega)]), rfl⟩
  · by_cases h2 : 11 < op
    · go_enter Try.func35, Try.ntmps35
      go_wp2_with fail
      go_ret
      exact ⟨ret_int (by unfold opsF; rw [if_pos (by omega)]), rfl⟩
    · have h3 : op = 1 ∨ op = 2 ∨ op = 3 ∨ op = 4 ∨ op = 5 ∨ op = 6 ∨ op = 7 ∨ op = 8 ∨ op = 9 ∨ op = 10 ∨ op = 11 := by omega
      clear h1 h2
      rcases h3 with rfl | rfl | rfl | rfl | rfl | rfl | rfl | rfl | rfl | rfl | rfl
      all_goals
        go_enter Try.func35, Try.ntmps35
        go_wp2_with fail
        go_ret
        exact ⟨ret_int (by decide), rfl⟩

theorem opsF_bd (op : Int) : -1 ≤ opsF op ∧ opsF op ≤ 4 := by unfold opsF; (repeat' split) <;> omega

set_option maxHeartbeats 1000000 in
theorem formT_any (dn : Nat) : ∀ (d : Nat) (cs : List Value) (e : Ex) (w : World), dn ≤ 1000 → ExIn w d cs e →
    Calls Try.prog 28 #[.agg cs.toArray, .int .i64 dn] w fun en w' => en = .returned (.bool (formF dn e)) ∧ Ext w w' := by
  induction dn with
  | zero =>
    intro d cs e w h3 he
    obtain ⟨A, cap, u0, u1, u2, u3, rfl, _, _, hlen, hcap, hel⟩ := he.open_
    clear hel he
    go_enter Try.func28, Try.ntmps28
    go_wp2_with fail
    go_quiet (fail)
    go_wp2_with fail
    go_ret
    exact ⟨ret_bool rfl, ((Ext.refl _).alloc _).drewN _⟩
  | succ dn ih =>
    intro d cs e w h3 he
    have ih' := Lib.hid ih
    clear ih
    rw [show ((dn + 1 : Nat) : Int) = (dn : Int) + 1 from by omega]
    have hfin : formF (dn + 1) e = (decide ((e.l.length : Int) = opsF e.op) &&
      (if e.op = 1 then decide (0 ≤ e.n) && decide (e.n ≤ 1099511627776) else if e.op = 2 then decide (0 ≤ e.n) && decide (e.n < 16) else e.l.all (formF dn))) := rfl
    have HF := Lib.hid hfin
    clear hfin
    generalize formF (dn + 1) e = r at *
    obtain ⟨A, cap, u0, u1, u2, u3, rfl, _, _, hlen, hcap, hel⟩ := he.open_
    generalize e.l = l at *
    generalize e.op = op at *
    generalize e.n = nn at *
    generalize hn : l.length = n at *
    have HN := Lib.hid hn
    have HEL := Lib.hid hel
    have hops := opsF_bd op
    have ho := fun w => opsT_any op w
    generalize opsF op = q at *
    have HO := Lib.hid ho
    clear hn hel he ho
    by_cases hnq : (n : Int) = q
    · have hb : ((n : Int) != q) = false := by rw [bne_eq_false_iff_eq]; exact hnq
      have HD := Lib.hid hnq
      clear hnq
      by_cases h1 : op = 1
      · subst h1
        go_enter Try.func28, Try.ntmps28
        go_wp2_with fail
        go_quiet ((go_at_call 40; exact Calls.quiet_of_same ((HO.out _).mono fun _ _ h => ⟨h.1, h.2.symm⟩)))
        go_wp2_with fail
        all_goals go_ret
        all_goals exact ⟨ret_bool (by rw [HF.out, Bool.eq_iff_iff]; simp [HD.out]; try omega), ((Ext.refl _).alloc _).drewN _⟩
      · by_cases h2 : op = 2
        · subst h2
          go_enter Try.func28, Try.ntmps28
          go_wp2_with fail
          go_quiet ((go_at_call 40; exact Calls.quiet_of_same ((HO.out _).mono fun _ _ h => ⟨h.1, h.2.symm⟩)))
          go_wp2_with fail
          all_goals go_ret
          all_goals exact ⟨ret_bool (by rw [HF.out, Bool.eq_iff_iff]; simp [HD.out]; try omega), ((Ext.refl _).alloc _).drewN _⟩
        · have e0 : ((dn : Int) + 1 == 0) = false := by rw [beq_eq_false_iff_ne]; omega
          have e1 : (op == 1) = false := by simpa using h1
          have e2 : (op == 2) = false := by simpa using h2
          have HF2 := Lib.hid (show r = l.all (formF dn) by rw [HF.out]; simp [HD.out, h1, h2])
          clear HF h1 h2
          go_enter Try.func28, Try.ntmps28
          go_wp2_with fail
          go_quiet ((go_at_call 40; exact Calls.quiet_of_same ((HO.out _).mono fun _ _ h => ⟨h.1, h.2.symm⟩)))
          go_wp2_with fail
          generalize hw0 : World.drewN _ _ = w0
          have hx0 : Ext w w0 := by rw [← hw0]; exact ((Ext.refl _).alloc _).drewN _
          clear hw0
          go_loopw [43] (fun i wr => ∃ k : Nat, k ≤ n ∧ i = .int .i64 k ∧ Hid ((l.take k).all (formF dn) = true) ∧ Ext w0 wr) (fun i _ => n - (intOf i).toNat)
          case atStart => exact ⟨0, Nat.zero_le _, rfl, rfl, Ext.refl _⟩
          case round =>
            obtain ⟨k, hk, rfl, HR, hx⟩ := hrel
            by_cases hlt : k < n
            · obtain ⟨b, o, rfl, hb, hi⟩ := HEL.out (by omega)
              have hlk : k < l.length := by rw [HN.out]; exact hlt
              obtain ⟨cs1, hl1, hr1, hE1⟩ := hi k l[k] (List.getElem?_eq_getElem hlk)
              have hE2 := (hE1.ext hx0).ext hx
              have hr2 := hx.range (hx0.range hr1)
              have HL1 := Lib.hid hl1
              have hts : l.take (k + 1) = l.take k ++ [l[k]] := List.take_succ_eq_append_getElem hlk
              have hm : l[k] ∈ l := List.getElem_mem _
              have HT := Lib.hid hts
              have HM := Lib.hid hm
              generalize l[k] = x at *
              obtain ⟨A1, cap1, v0, v1, v2, v3, rfl, _⟩ := hE2.open_
              have hcall := fun (W : World) (h : Ext wr W) => ih'.out _ _ x W (by omega) (hE2.ext h)
              cases hfx : formF dn x
              · rw [hfx] at hcall
                have HC := Lib.hid hcall
                have HX := Lib.hid hfx
                clear hcall hi hr1 hE1 hE2 hl1 hts hm hfx
                go_wp2_with (refine wpList_load_mid rfl 26 _ rfl b (o + k * 7) rfl _ _ hr2 Try.underlying26 rfl info_expr ?_)
                refine (HC.out _ ((Ext.refl _).alloc _)).mono ?_
                rintro e1 w1 ⟨rfl, hx1⟩
                go_wp2_with fail
                go_ret
                refine ⟨ret_bool ?_, (hx0.trans hx).trans (((Ext.refl _).alloc _).trans hx1)⟩
                rw [HF2.out, eq_comm, List.all_eq_false]
                exact ⟨x, HM.out, by simp [HX.out]⟩
              · rw [hfx] at hcall
                have HC := Lib.hid hcall
                have HX := Lib.hid hfx
                clear hcall hi hr1 hE1 hE2 hl1 hts hm hfx
                go_wp2_with (refine wpList_load_mid rfl 26 _ rfl b (o + k * 7) rfl _ _ hr2 Try.underlying26 rfl info_expr ?_)
                refine (HC.out _ ((Ext.refl _).alloc _)).mono ?_
                rintro e1 w1 ⟨rfl, hx1⟩
                go_wp2_with fail
                go_roundw
                case rel => exact ⟨k + 1, by omega, by go_num, (by rw [HT.out, List.all_append, HR.out]; simp [HX.out] : (l.take (k + 1)).all (formF dn) = true), hx.trans (((Ext.refl _).alloc _).trans hx1)⟩
                case measure => simp [intOf]; omega
            · have hkn : l.length ≤ k := by rw [HN.out]; omega
              have HK := Lib.hid hkn
              clear hkn
              go_wp2_with fail
              go_ret
              exact ⟨ret_bool (by rw [HF2.out, ← HR.out, List.take_of_length_le HK.out]), hx0.trans hx⟩
    · have hb : ((n : Int) != q) = true := by rw [bne_iff_ne]; exact hnq
      have HD := Lib.hid hnq
      clear hnq
      go_enter Try.func28, Try.ntmps28
      go_wp2_with fail
      go_quiet ((go_at_call 40; exact Calls.quiet_of_same ((HO.out _).mono fun _ _ h => ⟨h.1, h.2.symm⟩)))
      go_wp2_with fail
      go_ret
      exact ⟨ret_bool (by rw [HF.out]; simp [HD.out]), ((Ext.refl _).alloc _).drewN _⟩

set_option maxHeartbeats 1000000 in
theorem formR_any (dn : Nat) : ∀ (d : Nat) (cs : List Value) (e : Ex) (w : World), dn ≤ 1000 → ExIn w d cs e →
    Calls Try.prog 19 #[.agg cs.toArray, .int .i64 dn] w fun en w' => en = .returned (.bool (formF dn e)) ∧ Ext w w' := by
  induction dn with
  | zero =>
    intro d cs e w h3 he
    obtain ⟨A, cap, u0, u1, u2, u3, rfl, _, _, hlen, hcap, hel⟩ := he.open_
    clear hel he
    go_enter Try.func19, Try.ntmps19
    go_wp2_with fail
    go_quiet (fail)
    go_wp2_with fail
    go_ret
    exact ⟨ret_bool rfl, ((Ext.refl _).alloc _).drewN _⟩
  | succ dn ih =>
    intro d cs e w h3 he
    have ih' := Lib.hid ih
    clear ih
    rw [show ((dn + 1 : Nat) : Int) = (dn : Int) + 1 from by omega]
    have hfin : formF (dn + 1) e = (decide ((e.l.length : Int) = opsF e.op) &&
      (if e.op = 1 then decide (0 ≤ e.n) && decide (e.n ≤ 1099511627776) else if e.op = 2 then decide (0 ≤ e.n) && decide (e.n < 16) else e.l.all (formF dn))) := rfl
    have HF := Lib.hid hfin
    clear hfin
    generalize formF (dn + 1) e = r at *
    obtain ⟨A, cap, u0, u1, u2, u3, rfl, _, _, hlen, hcap, hel⟩ := he.open_
    have hl0 : opsF e.op = 0 → (e.l.length : Int) = opsF e.op → e.l = [] := fun h1 h2 => List.eq_nil_of_length_eq_zero (by omega)
    have hz : (e.op = 1 ∨ e.op = 2) → opsF e.op = 0 := by rintro (h | h) <;> rw [h] <;> decide
    have HZ := Lib.hid hz
    have HL0 := Lib.hid hl0
    generalize e.l = l at *
    generalize e.op = op at *
    generalize e.n = nn at *
    generalize hn : l.length = n at *
    have HN := Lib.hid hn
    have HEL := Lib.hid hel
    have hops := opsF_bd op
    have ho := fun w => opsR_any op w
    generalize opsF op = q at *
    have HO := Lib.hid ho
    clear hn hel he ho hz hl0
    have e0 : ¬ (dn : Int) + 1 < 1 := by omega
    by_cases hnq : (n : Int) = q
    · have hb : (q != (n : Int)) = false := by rw [bne_eq_false_iff_eq]; exact hnq.symm
      have HD := Lib.hid hnq
      clear hnq
      have hgo : (op = 1 ∧ (nn < 0 ∨ 1099511627776 < nn) ∨ op = 2 ∧ (nn < 0 ∨ 16 ≤ nn)) ∨ (¬ (op = 1 ∧ (nn < 0 ∨ 1099511627776 < nn) ∨ op = 2 ∧ (nn < 0 ∨ 16 ≤ nn)) ∧ r = l.all (formF dn)) := by
        by_cases h1 : op = 1
        · by_cases h2 : nn < 0 ∨ 1099511627776 < nn
          · exact .inl (.inl ⟨h1, h2⟩)
          · refine .inr ⟨by omega, ?_⟩
            rw [HF.out, HL0.out (HZ.out (.inl h1)) HD.out, Bool.eq_iff_iff]
            simp [HD.out, h1]; omega
        · by_cases h2 : op = 2
          · by_cases h3 : nn < 0 ∨ 16 ≤ nn
            · exact .inl (.inr ⟨h2, h3⟩)
            · refine .inr ⟨by omega, ?_⟩
              rw [HF.out, HL0.out (HZ.out (.inr h2)) HD.out, Bool.eq_iff_iff]
              simp [HD.out, h2]; omega
          · exact .inr ⟨by omega, by rw [HF.out]; simp [HD.out, h1, h2]⟩
      rcases hgo with (⟨rfl, h | h⟩ | ⟨rfl, h | h⟩) | ⟨hno, HF2⟩
      · go_enter Try.func19, Try.ntmps19
        go_wp2_with fail
        go_quiet ((go_at_call 35; exact Calls.quiet_of_same ((HO.out _).mono fun _ _ h => ⟨h.1, h.2.symm⟩)))
        go_wp2_with fail
        all_goals go_ret
        all_goals exact ⟨ret_bool (by rw [HF.out, eq_comm, Bool.eq_false_iff]; simp [HD.out]; try omega), ((Ext.refl _).alloc _).drewN _⟩
      · go_enter Try.func19, Try.ntmps19
        go_wp2_with fail
        go_quiet ((go_at_call 35; exact Calls.quiet_of_same ((HO.out _).mono fun _ _ h => ⟨h.1, h.2.symm⟩)))
        go_wp2_with fail
        all_goals go_ret
        all_goals exact ⟨ret_bool (by rw [HF.out, eq_comm, Bool.eq_false_iff]; simp [HD.out]; try omega), ((Ext.refl _).alloc _).drewN _⟩
      · go_enter Try.func19, Try.ntmps19
        go_wp2_with fail
        go_quiet ((go_at_call 35; exact Calls.quiet_of_same ((HO.out _).mono fun _ _ h => ⟨h.1, h.2.symm⟩)))
        go_wp2_with fail
        all_goals go_ret
        all_goals exact ⟨ret_bool (by rw [HF.out, eq_comm, Bool.eq_false_iff]; simp [HD.out]; try omega), ((Ext.refl _).alloc _).drewN _⟩
      · go_enter Try.func19, Try.ntmps19
        go_wp2_with fail
        go_quiet ((go_at_call 35; exact Calls.quiet_of_same ((HO.out _).mono fun _ _ h => ⟨h.1, h.2.symm⟩)))
        go_wp2_with fail
        all_goals go_ret
        all_goals exact ⟨ret_bool (by rw [HF.out, eq_comm, Bool.eq_false_iff]; simp [HD.out]; try omega), ((Ext.refl _).alloc _).drewN _⟩
      · have hno3 : (op = 1 ∧ 0 ≤ nn ∧ nn ≤ 1099511627776) ∨ (op = 2 ∧ 0 ≤ nn ∧ nn < 16) ∨ ((op == 1) = false ∧ (op == 2) = false) := by
          simp only [beq_eq_false_iff_ne]; omega
        have HF3 := Lib.hid HF2
        clear HF hno HF2 HZ HL0
        rcases hno3 with ⟨rfl, b1, b2⟩ | ⟨rfl, b1, b2⟩ | ⟨b1, b2⟩
        all_goals
          go_enter Try.func19, Try.ntmps19
          go_wp2_with fail
          go_quiet ((go_at_call 35; exact Calls.quiet_of_same ((HO.out _).mono fun _ _ h => ⟨h.1, h.2.symm⟩)))
          go_wp2_with fail
          generalize hw0 : World.drewN _ _ = w0
          have hx0 : Ext w w0 := by rw [← hw0]; exact ((Ext.refl _).alloc _).drewN _
          have hc0 : w0.cell? ⟨w.heap.size, 6, none⟩ = some (.slice A n cap) := by rw [← hw0]; simp [go_sem]
          clear hw0
          go_loopw [5] (fun i wr => ∃ k : Nat, k ≤ n ∧ i = .int .i64 k ∧ Hid ((l.take k).all (formF dn) = true) ∧ Ext w0 wr) (fun i _ => n - (intOf i).toNat)
          case atStart => exact ⟨0, Nat.zero_le _, rfl, rfl, Ext.refl _⟩
          case round =>
            obtain ⟨k, hk, rfl, HR, hx⟩ := hrel
            have hc := hx.cell hc0
            by_cases hlt : k < n
            · obtain ⟨b, o, rfl, hb, hi⟩ := HEL.out (by omega)
              have hlk : k < l.length := by rw [HN.out]; exact hlt
              obtain ⟨cs1, hl1, hr1, hE1⟩ := hi k l[k] (List.getElem?_eq_getElem hlk)
              have hE2 := (hE1.ext hx0).ext hx
              have hr2 := hx.range (hx0.range hr1)
              have HL1 := Lib.hid hl1
              have hts : l.take (k + 1) = l.take k ++ [l[k]] := List.take_succ_eq_append_getElem hlk
              have hm : l[k] ∈ l := List.getElem_mem _
              have HT := Lib.hid hts
              have HM := Lib.hid hm
              generalize l[k] = x at *
              have hcall := ih'.out _ _ x wr (by omega) hE2
              cases hfx : formF dn x
              · rw [hfx] at hcall
                have HC := Lib.hid hcall
                have HX := Lib.hid hfx
                clear hcall hi hr1 hE1 hE2 hl1 hts hm hfx
                go_wp2_with (refine wpList_load_mid rfl 26 _ rfl b (o + k * 7) rfl _ _ hr2 Try.underlying26 rfl (by rw [HL1.out]; exact info_expr) ?_)
                refine (HC.out).mono ?_
                rintro e1 w1 ⟨rfl, hx1⟩
                go_wp2_with fail
                go_ret
                refine ⟨ret_bool ?_, (hx0.trans hx).trans hx1⟩
                rw [HF3.out, eq_comm, List.all_eq_false]
                exact ⟨x, HM.out, by simp [HX.out]⟩
              · rw [hfx] at hcall
                have HC := Lib.hid hcall
                have HX := Lib.hid hfx
                clear hcall hi hr1 hE1 hE2 hl1 hts hm hfx
                go_wp2_with (refine wpList_load_mid rfl 26 _ rfl b (o + k * 7) rfl _ _ hr2 Try.underlying26 rfl (by rw [HL1.out]; exact info_expr) ?_)
                refine (HC.out).mono ?_
                rintro e1 w1 ⟨rfl, hx1⟩
                go_wp2_with fail
                go_roundw
                case rel => exact ⟨k + 1, by omega, by go_num, (by rw [HT.out, List.all_append, HR.out]; simp [HX.out] : (l.take (k + 1)).all (formF dn) = true), hx.trans hx1⟩
                case measure => simp [intOf]; omega
            · have hkn : l.length ≤ k := by rw [HN.out]; omega
              have HK := Lib.hid hkn
              clear hkn
              go_wp2_with fail
              go_ret
              exact ⟨ret_bool (by rw [HF3.out, ← HR.out, List.take_of_length_le HK.out]), hx0.trans hx⟩
    · have hb : (q != (n : Int)) = true := by rw [bne_iff_ne]; omega
      have HD := Lib.hid hnq
      clear hnq
      go_enter Try.func19, Try.ntmps19
      go_wp2_with fail
      go_quiet ((go_at_call 35; exact Calls.quiet_of_same ((HO.out _).mono fun _ _ h => ⟨h.1, h.2.symm⟩)))
      go_wp2_with fail
      go_ret
      exact ⟨ret_bool (by rw [HF.out]; simp [HD.out]), ((Ext.refl _).alloc _).drewN _⟩
end Go.Proofs.Ytophdbbbojnobaa
