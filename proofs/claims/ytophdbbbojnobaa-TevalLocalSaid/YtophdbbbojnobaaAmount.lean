/- What Amount of teval and of the reference return. -/
import Derived.Test.YtophdbbbojnobaaProg
import Derived.Test.YtophdbbbojnobaaHolds
namespace Go.Proofs.Ytophdbbbojnobaa
open Go.RowKit
set_option linter.unusedVariables false

theorem info_clause : (Try.prog.info? 46).map (·.size) = some 9 := by kernel_rfl

theorem amountF_drop (x : Ev) (l : List Cl) (k : Nat) (h : k < l.length) : amountF x (l.drop k) k =
    if (holdsF x l[k].tests).2 ≠ 0 then (0, 0, (holdsF x l[k].tests).2) else if (holdsF x l[k].tests).1 = false then amountF x (l.drop (k + 1)) (k + 1) else
      if (EvalF l[k].pay x).2 ≠ 0 then (0, 0, (EvalF l[k].pay x).2) else ((EvalF l[k].pay x).1, k, 0) := by
  rw [List.drop_eq_getElem_cons h]; rfl

theorem ret_trip {r : Int × Int × Int} {a b c : Int} (h : r = (a, b, c)) : Ending.returned (.tuple #[.int .i64 a, .int .i64 b, .int .i64 c]) = .returned (.tuple #[.int .i64 r.1, .int .i64 r.2.1, .int .i64 r.2.2]) := by rw [h]

set_option maxHeartbeats 2000000 in
theorem amountT_any (x : Ev) (hx : x.ok) (cs : List Value) (t : Tf) (w : World) (ht : TfIn w cs t) :
    Calls Try.prog 14 #[.agg cs.toArray, .agg x.cells.toArray] w fun en w' => en = .returned (.tuple #[.int .i64 (amountF x t.cls 0).1, .int .i64 (amountF x t.cls 0).2.1, .int .i64 (amountF x t.cls 0).2.2]) ∧ Ext w w' := by
  have HXL := Lib.hid (show x.cells.length = 17 by simp [Ev.cells, hx.1])
  obtain ⟨sv, rfl, _, hs⟩ := ht
  obtain ⟨A, cap, rfl, hlen, hcap, HEL⟩ := hs.open_
  obtain ⟨r, hr⟩ : ∃ r, amountF x t.cls 0 = r := ⟨_, rfl⟩
  rw [hr]
  have HR := Lib.hid hr
  clear hr hs
  generalize t.cls = l at *
  generalize hn : l.length = n at *
  have HN := Lib.hid hn
  clear hn
  go_enter Try.func14, Try.ntmps14
  go_wp2_with fail
  generalize hw0 : World.alloc _ _ = w0
  have hx0 : Ext w w0 := by rw [← hw0]; exact ((Ext.refl _).alloc _).alloc _
  have hr3 : w0.rangeAt (w.heap.size + 1) 0 x.cells := by rw [← hw0]; intro j v hv; simp [go_sem, hv]
  clear hw0
  go_loopw [14] (fun i wr => ∃ k : Nat, k ≤ n ∧ i = .int .i64 k ∧ Hid (amountF x (l.drop k) k = r) ∧ Ext w0 wr) (fun i _ => n - (intOf i).toNat)
  case atStart => exact ⟨0, Nat.zero_le _, rfl, HR.out, Ext.refl _⟩
  case round =>
    obtain ⟨k, hk, rfl, HK, hxr⟩ := hrel
    by_cases hlt : k < n
    · have hlk : k < l.length := by rw [HN.out]; exact hlt
      obtain ⟨b, o, cs1, rfl, hb, hl1, hr1, hcl⟩ := HEL.out k l[k] (List.getElem?_eq_getElem hlk)
      have hrr := hxr.range (hx0.range hr1)
      have hst := amountF_drop x l k hlk
      rw [HK.out] at hst
      have HS := Lib.hid hst
      clear hst hr1 HK hl1
      generalize l[k] = c at *
      clear hlk
      have hcl2 := (hcl.ext hx0).ext hxr
      have hcl2' := hcl2
      obtain ⟨sv, ps, rfl, hsl, d, hE⟩ := hcl2'
      obtain ⟨A0, cap0, u0, u1, u2, u3, rfl, _⟩ := hE.open_
      obtain ⟨A1, cap1, rfl, _⟩ := hsl.open_
      have HH := Lib.hid fun o => holdsT_any x hx _ c _ (hcl2.ext ((Ext.refl wr).alloc o))
      have HEV := Lib.hid fun (W : World) (h : Ext wr W) => EvalT_any x hx d _ c.pay W (hE.ext h)
      have HRX := Lib.hid fun o => ((hxr.alloc o).range hr3)
      clear hcl hcl2 hsl hE hb
      generalize EvalF c.pay x = p at *
      generalize holdsF x c.tests = q at *
      obtain ⟨p1, p2⟩ := p
      obtain ⟨q1, q2⟩ := q
      have hs := HS.out
      clear HS
      by_cases hq : q2 = 0
      · subst hq
        rw [if_neg (by simp)] at hs
        have HS := Lib.hid hs
        clear hs
        cases q1
        · have HS2 := Lib.hid (show r = amountF x (l.drop (k + 1)) (k + 1) by rw [HS.out]; rfl)
          clear HS
          go_wp2_with (first
            | (refine wpList_load_mid rfl 46 _ rfl b (o + k * 9) rfl _ _ hrr Try.underlying46 rfl info_clause ?_)
            | (refine wpList_load_mid rfl 29 _ rfl (w.heap.size + 1) 0 rfl x.cells _ (HRX.out _) Try.underlying29 rfl (by rw [HXL.out]; exact info_env) ?_))
          refine (HH.out _).mono ?_
          rintro e1 w2 ⟨rfl, hx2⟩
          go_wp2_with fail
          go_roundw
          case rel => exact ⟨k + 1, by omega, by go_num, HS2.out.symm, (hxr.alloc _).trans hx2⟩
          case measure => simp [intOf]; omega
        · have HS2 := Lib.hid (show r = if p2 ≠ 0 then (0, 0, p2) else (p1, (k : Int), 0) by rw [HS.out]; rfl)
          clear HS
          by_cases hp : p2 = 0
          · subst hp
            have HS3 := Lib.hid (show r = (p1, (k : Int), 0) by rw [HS2.out]; rfl)
            clear HS2
            go_wp2_with (first
              | (refine wpList_load_mid rfl 46 _ rfl b (o + k * 9) rfl _ _ hrr Try.underlying46 rfl info_clause ?_)
              | (refine wpList_load_mid rfl 29 _ rfl (w.heap.size + 1) 0 rfl x.cells _ (HRX.out _) Try.underlying29 rfl (by rw [HXL.out]; exact info_env) ?_))
            refine (HH.out _).mono ?_
            rintro e1 w2 ⟨rfl, hx2⟩
            have hrx2 := hx2.range (HRX.out _)
            have hrp : w2.rangeAt wr.heap.size 2 [.int .i64 c.pay.op, .int .i64 c.pay.n, .int .i64 u0, .int .i64 u1, .int .i64 u2, .int .i64 u3, .slice A0 c.pay.l.length cap0] :=
              hx2.range (by intro j v hv; simp [go_sem] at hv ⊢; simpa [Nat.add_comm 2 j] using hv)
            have hxx := ((Ext.refl wr).alloc _).trans hx2
            clear hx2
            go_wp2_with (first
              | (refine wpList_load_mid rfl 26 _ rfl wr.heap.size 2 rfl _ _ hrp Try.underlying26 rfl info_expr ?_)
              | (refine wpList_load_mid rfl 29 _ rfl (w.heap.size + 1) 0 rfl x.cells _ hrx2 Try.underlying29 rfl (by rw [HXL.out]; exact info_env) ?_))
            refine (HEV.out _ hxx).mono ?_
            rintro e2 w3 ⟨rfl, hx3⟩
            go_wp2_with fail
            go_ret3
            exact ⟨ret_trip HS3.out, (hx0.trans hxr).trans (hxx.trans hx3)⟩
          · have hp' : (p2 != 0) = true := by rw [bne_iff_ne]; exact hp
            have HS3 := Lib.hid (show r = (0, 0, p2) by rw [HS2.out, if_pos hp])
            clear HS2 hp
            go_wp2_with (first
              | (refine wpList_load_mid rfl 46 _ rfl b (o + k * 9) rfl _ _ hrr Try.underlying46 rfl info_clause ?_)
              | (refine wpList_load_mid rfl 29 _ rfl (w.heap.size + 1) 0 rfl x.cells _ (HRX.out _) Try.underlying29 rfl (by rw [HXL.out]; exact info_env) ?_))
            refine (HH.out _).mono ?_
            rintro e1 w2 ⟨rfl, hx2⟩
            have hrx2 := hx2.range (HRX.out _)
            have hrp : w2.rangeAt wr.heap.size 2 [.int .i64 c.pay.op, .int .i64 c.pay.n, .int .i64 u0, .int .i64 u1, .int .i64 u2, .int .i64 u3, .slice A0 c.pay.l.length cap0] :=
              hx2.range (by intro j v hv; simp [go_sem] at hv ⊢; simpa [Nat.add_comm 2 j] using hv)
            have hxx := ((Ext.refl wr).alloc _).trans hx2
            clear hx2
            go_wp2_with (first
              | (refine wpList_load_mid rfl 26 _ rfl wr.heap.size 2 rfl _ _ hrp Try.underlying26 rfl info_expr ?_)
              | (refine wpList_load_mid rfl 29 _ rfl (w.heap.size + 1) 0 rfl x.cells _ hrx2 Try.underlying29 rfl (by rw [HXL.out]; exact info_env) ?_))
            refine (HEV.out _ hxx).mono ?_
            rintro e2 w3 ⟨rfl, hx3⟩
            go_wp2_with fail
            go_ret3
            exact ⟨ret_trip HS3.out, (hx0.trans hxr).trans (hxx.trans hx3)⟩
      · have hq' : (q2 != 0) = true := by rw [bne_iff_ne]; exact hq
        have HS3 := Lib.hid (show r = (0, 0, q2) by rw [hs, if_pos hq])
        clear hs hq
        go_wp2_with (first
          | (refine wpList_load_mid rfl 46 _ rfl b (o + k * 9) rfl _ _ hrr Try.underlying46 rfl info_clause ?_)
          | (refine wpList_load_mid rfl 29 _ rfl (w.heap.size + 1) 0 rfl x.cells _ (HRX.out _) Try.underlying29 rfl (by rw [HXL.out]; exact info_env) ?_))
        refine (HH.out _).mono ?_
        rintro e1 w2 ⟨rfl, hx2⟩
        go_wp2_with fail
        go_ret3
        exact ⟨ret_trip HS3.out, (hx0.trans hxr).trans (((Ext.refl wr).alloc _).trans hx2)⟩
    · have HS2 := Lib.hid (show r = (0, 0, 180) by rw [← HK.out, List.drop_of_length_le (by rw [HN.out]; omega)]; rfl)
      clear HK
      go_wp2_with fail
      go_ret3
      exact ⟨ret_trip HS2.out, hx0.trans hxr⟩

set_option maxHeartbeats 2000000 in
theorem amountR_any (x : Ev) (hx : x.ok) (cs : List Value) (t : Tf) (w : World) (ht : TfIn w cs t) :
    Calls Try.prog 15 #[.agg cs.toArray, .agg x.cells.toArray] w fun en w' => en = .returned (.tuple #[.int .i64 (amountF x t.cls 0).1, .int .i64 (amountF x t.cls 0).2.1, .int .i64 (amountF x t.cls 0).2.2]) ∧ Ext w w' := by
  have HXL := Lib.hid (show x.cells.length = 17 by simp [Ev.cells, hx.1])
  obtain ⟨sv, rfl, _, hs⟩ := ht
  obtain ⟨A, cap, rfl, hlen, hcap, HEL⟩ := hs.open_
  obtain ⟨r, hr⟩ : ∃ r, amountF x t.cls 0 = r := ⟨_, rfl⟩
  rw [hr]
  have HR := Lib.hid hr
  clear hr hs
  generalize t.cls = l at *
  generalize hn : l.length = n at *
  have HN := Lib.hid hn
  clear hn
  go_enter Try.func15, Try.ntmps15
  go_wp2_with fail
  generalize hw0 : World.alloc _ _ = w0
  have hx0 : Ext w w0 := by rw [← hw0]; exact ((Ext.refl _).alloc _).alloc _
  have hc1 : w0.cell? ⟨w.heap.size, 2, none⟩ = some (.slice A n cap) := by rw [← hw0]; simp [go_sem]
  have hr3 : w0.rangeAt (w.heap.size + 1) 0 x.cells := by rw [← hw0]; intro j v hv; simp [go_sem, hv]
  clear hw0
  go_loopw [7] (fun i wr => ∃ k : Nat, k ≤ n ∧ i = .int .i64 k ∧ Hid (amountF x (l.drop k) k = r) ∧ Ext w0 wr) (fun i _ => n - (intOf i).toNat)
  case atStart => exact ⟨0, Nat.zero_le _, rfl, HR.out, Ext.refl _⟩
  case round =>
    obtain ⟨k, hk, rfl, HK, hxr⟩ := hrel
    have hc2 := hxr.cell hc1
    by_cases hlt : k < n
    · have hlk : k < l.length := by rw [HN.out]; exact hlt
      obtain ⟨b, o, cs1, rfl, hb, hl1, hr1, hcl⟩ := HEL.out k l[k] (List.getElem?_eq_getElem hlk)
      have hrr := hxr.range (hx0.range hr1)
      have hst := amountF_drop x l k hlk
      rw [HK.out] at hst
      have HS := Lib.hid hst
      clear hst hr1 HK hl1
      generalize l[k] = c at *
      clear hlk
      have hk1 : (0 : Int) ≤ (k : Int) := by omega
      have hk2 : (k : Int) < (n : Int) := by omega
      have hcl2 := (hcl.ext hx0).ext hxr
      have hcl2' := hcl2
      obtain ⟨sv, ps, rfl, hsl, d, hE⟩ := hcl2'
      obtain ⟨A0, cap0, u0, u1, u2, u3, rfl, _⟩ := hE.open_
      obtain ⟨A1, cap1, rfl, _⟩ := hsl.open_
      have HH := Lib.hid fun (W : World) (h : Ext wr W) => holdsR_any x hx _ c W (hcl2.ext h)
      have HEV := Lib.hid fun (W : World) (h : Ext wr W) => EvalR_any x hx d _ c.pay W (hE.ext h)
      have hrx := hxr.range hr3
      have hrp : wr.rangeAt b (o + k * 9 + 2) [.int .i64 c.pay.op, .int .i64 c.pay.n, .int .i64 u0, .int .i64 u1, .int .i64 u2, .int .i64 u3, .slice A0 c.pay.l.length cap0] := by
        intro j v hv
        rw [Nat.add_assoc]
        exact hrr (2 + j) v (by rw [Nat.add_comm]; exact hv)
      clear hcl hcl2 hsl hE hb
      generalize EvalF c.pay x = p at *
      generalize holdsF x c.tests = q at *
      obtain ⟨p1, p2⟩ := p
      obtain ⟨q1, q2⟩ := q
      have hs := HS.out
      clear HS
      by_cases hq : q2 = 0
      · subst hq
        rw [if_neg (by simp)] at hs
        have HS := Lib.hid hs
        clear hs
        cases q1
        · have HS2 := Lib.hid (show r = amountF x (l.drop (k + 1)) (k + 1) by rw [HS.out]; rfl)
          clear HS
          go_wp2_with fail
          refine wp_region_ord [(0, true), (1, true), (2, true), (3, true), (4, true), (5, true), (6, false), (7, true), (8, true), (9, true), (10, true), (11, true)] (Ext wr) (by kernel_rfl) (by kernel_rfl) (by intro c a w d v h; cases d <;> exact h) (Ext.refl _).drew ?_
          repeat
            (refine ⟨_, ?_, rfl, ord_cell (by rfl) (fun w' hS => ?_), ?_⟩
             rotate_left
             · (have g6 := hS.cell hc2; go_simp; rfl)
             try simp only [Act.put, List.getElem_toArray, List.getElem_cons_zero, List.getElem_cons_succ, List.setIfInBounds_toArray, List.set_cons_zero, List.set_cons_succ])
          refine ⟨_, _, rfl, ord_row (by rfl) _ _ rfl b _ rfl _ _ hrr Try.underlying46 rfl info_clause, ?_⟩
          try simp only [Act.put, List.getElem_toArray, List.getElem_cons_zero, List.getElem_cons_succ, List.setIfInBounds_toArray, List.set_cons_zero, List.set_cons_succ]
          refine ⟨_, _, rfl, ord_row (by rfl) _ _ rfl (w.heap.size + 1) _ rfl x.cells _ hrx Try.underlying29 rfl (by rw [HXL.out]; exact info_env), ?_⟩
          try simp only [Act.put, List.getElem_toArray, List.getElem_cons_zero, List.getElem_cons_succ, List.setIfInBounds_toArray, List.set_cons_zero, List.set_cons_succ]
          refine ⟨_, rfl, by rfl, ?_⟩
          try simp only [List.getElem_toArray, List.getElem_cons_zero, List.getElem_cons_succ]
          go_step
          refine (HH.out _ (Ext.refl _).drew).mono ?_
          rintro e1 w2 ⟨rfl, hx2⟩
          refine ⟨(Ext.refl _).drew.trans hx2, ?_⟩
          try simp only [Act.put, List.getElem_toArray, List.getElem_cons_zero, List.getElem_cons_succ, List.setIfInBounds_toArray, List.set_cons_zero, List.set_cons_succ]
          repeat
            (refine ⟨_, ?_, rfl, ord_cell (by rfl) (fun w' hS => ?_), ?_⟩
             rotate_left
             · (go_simp; rfl)
             try simp only [Act.put, List.getElem_toArray, List.getElem_cons_zero, List.getElem_cons_succ, List.setIfInBounds_toArray, List.set_cons_zero, List.set_cons_succ])
          simp only [wpOrd]
          go_wp2_with fail
          go_roundw
          case rel => exact ⟨k + 1, by omega, by go_num, HS2.out.symm, hxr.trans ((Ext.refl _).drew.trans hx2)⟩
          case measure => simp [intOf]; omega
        · have HS2 := Lib.hid (show r = if p2 ≠ 0 then (0, 0, p2) else (p1, (k : Int), 0) by rw [HS.out]; rfl)
          clear HS
          by_cases hp : p2 = 0
          · subst hp
            have HS3 := Lib.hid (show r = (p1, (k : Int), 0) by rw [HS2.out]; rfl)
            clear HS2
            go_wp2_with fail
            refine wp_region_ord [(0, true), (1, true), (2, true), (3, true), (4, true), (5, true), (6, false), (7, true), (8, true), (9, true), (10, true), (11, true)] (Ext wr) (by kernel_rfl) (by kernel_rfl) (by intro c a w d v h; cases d <;> exact h) (Ext.refl _).drew ?_
            repeat
              (refine ⟨_, ?_, rfl, ord_cell (by rfl) (fun w' hS => ?_), ?_⟩
               rotate_left
               · (have g6 := hS.cell hc2; go_simp; rfl)
               try simp only [Act.put, List.getElem_toArray, List.getElem_cons_zero, List.getElem_cons_succ, List.setIfInBounds_toArray, List.set_cons_zero, List.set_cons_succ])
            refine ⟨_, _, rfl, ord_row (by rfl) _ _ rfl b _ rfl _ _ hrr Try.underlying46 rfl info_clause, ?_⟩
            try simp only [Act.put, List.getElem_toArray, List.getElem_cons_zero, List.getElem_cons_succ, List.setIfInBounds_toArray, List.set_cons_zero, List.set_cons_succ]
            refine ⟨_, _, rfl, ord_row (by rfl) _ _ rfl (w.heap.size + 1) _ rfl x.cells _ hrx Try.underlying29 rfl (by rw [HXL.out]; exact info_env), ?_⟩
            try simp only [Act.put, List.getElem_toArray, List.getElem_cons_zero, List.getElem_cons_succ, List.setIfInBounds_toArray, List.set_cons_zero, List.set_cons_succ]
            refine ⟨_, rfl, by rfl, ?_⟩
            try simp only [List.getElem_toArray, List.getElem_cons_zero, List.getElem_cons_succ]
            go_step
            refine (HH.out _ (Ext.refl _).drew).mono ?_
            rintro e1 w2 ⟨rfl, hx2⟩
            refine ⟨(Ext.refl _).drew.trans hx2, ?_⟩
            try simp only [Act.put, List.getElem_toArray, List.getElem_cons_zero, List.getElem_cons_succ, List.setIfInBounds_toArray, List.set_cons_zero, List.set_cons_succ]
            repeat
              (refine ⟨_, ?_, rfl, ord_cell (by rfl) (fun w' hS => ?_), ?_⟩
               rotate_left
               · (go_simp; rfl)
               try simp only [Act.put, List.getElem_toArray, List.getElem_cons_zero, List.getElem_cons_succ, List.setIfInBounds_toArray, List.set_cons_zero, List.set_cons_succ])
            simp only [wpOrd]
            have hxx := ((Ext.refl wr).drew).trans hx2
            clear hx2
            replace hc2 := hxx.cell hc2
            replace hrx := hxx.range hrx
            replace hrp := hxx.range hrp
            go_wp2_with fail
            refine wp_region_ord [(0, true), (1, true), (2, true), (3, true), (4, true), (5, true), (6, true), (7, false), (8, true), (9, true), (10, true), (11, true), (12, true)] (Ext w2) (by kernel_rfl) (by kernel_rfl) (by intro c a w d v h; cases d <;> exact h) (Ext.refl _).drew ?_
            repeat
              (refine ⟨_, ?_, rfl, ord_cell (by rfl) (fun w' hS => ?_), ?_⟩
               rotate_left
               · (have g6 := hS.cell hc2; go_simp; rfl)
               try simp only [Act.put, List.getElem_toArray, List.getElem_cons_zero, List.getElem_cons_succ, List.setIfInBounds_toArray, List.set_cons_zero, List.set_cons_succ])
            refine ⟨_, _, rfl, ord_row (by rfl) _ _ rfl b _ rfl _ _ hrp Try.underlying26 rfl info_expr, ?_⟩
            try simp only [Act.put, List.getElem_toArray, List.getElem_cons_zero, List.getElem_cons_succ, List.setIfInBounds_toArray, List.set_cons_zero, List.set_cons_succ]
            refine ⟨_, _, rfl, ord_row (by rfl) _ _ rfl (w.heap.size + 1) _ rfl x.cells _ hrx Try.underlying29 rfl (by rw [HXL.out]; exact info_env), ?_⟩
            try simp only [Act.put, List.getElem_toArray, List.getElem_cons_zero, List.getElem_cons_succ, List.setIfInBounds_toArray, List.set_cons_zero, List.set_cons_succ]
            refine ⟨_, rfl, by rfl, ?_⟩
            try simp only [List.getElem_toArray, List.getElem_cons_zero, List.getElem_cons_succ]
            go_step
            refine (HEV.out _ (hxx.drew)).mono ?_
            rintro e2 w3 ⟨rfl, hx3⟩
            refine ⟨(Ext.refl _).drew.trans hx3, ?_⟩
            try simp only [Act.put, List.getElem_toArray, List.getElem_cons_zero, List.getElem_cons_succ, List.setIfInBounds_toArray, List.set_cons_zero, List.set_cons_succ]
            repeat
              (refine ⟨_, ?_, rfl, ord_cell (by rfl) (fun w' hS => ?_), ?_⟩
               rotate_left
               · (go_simp; rfl)
               try simp only [Act.put, List.getElem_toArray, List.getElem_cons_zero, List.getElem_cons_succ, List.setIfInBounds_toArray, List.set_cons_zero, List.set_cons_succ])
            simp only [wpOrd]
            go_wp2_with fail
            go_ret3
            exact ⟨ret_trip HS3.out, (hx0.trans hxr).trans (hxx.trans ((Ext.refl _).drew.trans hx3))⟩
          · have hp' : (p2 != 0) = true := by rw [bne_iff_ne]; exact hp
            have HS3 := Lib.hid (show r = (0, 0, p2) by rw [HS2.out, if_pos hp])
            clear HS2 hp
            go_wp2_with fail
            refine wp_region_ord [(0, true), (1, true), (2, true), (3, true), (4, true), (5, true), (6, false), (7, true), (8, true), (9, true), (10, true), (11, true)] (Ext wr) (by kernel_rfl) (by kernel_rfl) (by intro c a w d v h; cases d <;> exact h) (Ext.refl _).drew ?_
            repeat
              (refine ⟨_, ?_, rfl, ord_cell (by rfl) (fun w' hS => ?_), ?_⟩
               rotate_left
               · (have g6 := hS.cell hc2; go_simp; rfl)
               try simp only [Act.put, List.getElem_toArray, List.getElem_cons_zero, List.getElem_cons_succ, List.setIfInBounds_toArray, List.set_cons_zero, List.set_cons_succ])
            refine ⟨_, _, rfl, ord_row (by rfl) _ _ rfl b _ rfl _ _ hrr Try.underlying46 rfl info_clause, ?_⟩
            try simp only [Act.put, List.getElem_toArray, List.getElem_cons_zero, List.getElem_cons_succ, List.setIfInBounds_toArray, List.set_cons_zero, List.set_cons_succ]
            refine ⟨_, _, rfl, ord_row (by rfl) _ _ rfl (w.heap.size + 1) _ rfl x.cells _ hrx Try.underlying29 rfl (by rw [HXL.out]; exact info_env), ?_⟩
            try simp only [Act.put, List.getElem_toArray, List.getElem_cons_zero, List.getElem_cons_succ, List.setIfInBounds_toArray, List.set_cons_zero, List.set_cons_succ]
            refine ⟨_, rfl, by rfl, ?_⟩
            try simp only [List.getElem_toArray, List.getElem_cons_zero, List.getElem_cons_succ]
            go_step
            refine (HH.out _ (Ext.refl _).drew).mono ?_
            rintro e1 w2 ⟨rfl, hx2⟩
            refine ⟨(Ext.refl _).drew.trans hx2, ?_⟩
            try simp only [Act.put, List.getElem_toArray, List.getElem_cons_zero, List.getElem_cons_succ, List.setIfInBounds_toArray, List.set_cons_zero, List.set_cons_succ]
            repeat
              (refine ⟨_, ?_, rfl, ord_cell (by rfl) (fun w' hS => ?_), ?_⟩
               rotate_left
               · (go_simp; rfl)
               try simp only [Act.put, List.getElem_toArray, List.getElem_cons_zero, List.getElem_cons_succ, List.setIfInBounds_toArray, List.set_cons_zero, List.set_cons_succ])
            simp only [wpOrd]
            have hxx := ((Ext.refl wr).drew).trans hx2
            clear hx2
            replace hc2 := hxx.cell hc2
            replace hrx := hxx.range hrx
            replace hrp := hxx.range hrp
            go_wp2_with fail
            refine wp_region_ord [(0, true), (1, true), (2, true), (3, true), (4, true), (5, true), (6, true), (7, false), (8, true), (9, true), (10, true), (11, true), (12, true)] (Ext w2) (by kernel_rfl) (by kernel_rfl) (by intro c a w d v h; cases d <;> exact h) (Ext.refl _).drew ?_
            repeat
              (refine ⟨_, ?_, rfl, ord_cell (by rfl) (fun w' hS => ?_), ?_⟩
               rotate_left
               · (have g6 := hS.cell hc2; go_simp; rfl)
               try simp only [Act.put, List.getElem_toArray, List.getElem_cons_zero, List.getElem_cons_succ, List.setIfInBounds_toArray, List.set_cons_zero, List.set_cons_succ])
            refine ⟨_, _, rfl, ord_row (by rfl) _ _ rfl b _ rfl _ _ hrp Try.underlying26 rfl info_expr, ?_⟩
            try simp only [Act.put, List.getElem_toArray, List.getElem_cons_zero, List.getElem_cons_succ, List.setIfInBounds_toArray, List.set_cons_zero, List.set_cons_succ]
            refine ⟨_, _, rfl, ord_row (by rfl) _ _ rfl (w.heap.size + 1) _ rfl x.cells _ hrx Try.underlying29 rfl (by rw [HXL.out]; exact info_env), ?_⟩
            try simp only [Act.put, List.getElem_toArray, List.getElem_cons_zero, List.getElem_cons_succ, List.setIfInBounds_toArray, List.set_cons_zero, List.set_cons_succ]
            refine ⟨_, rfl, by rfl, ?_⟩
            try simp only [List.getElem_toArray, List.getElem_cons_zero, List.getElem_cons_succ]
            go_step
            refine (HEV.out _ (hxx.drew)).mono ?_
            rintro e2 w3 ⟨rfl, hx3⟩
            refine ⟨(Ext.refl _).drew.trans hx3, ?_⟩
            try simp only [Act.put, List.getElem_toArray, List.getElem_cons_zero, List.getElem_cons_succ, List.setIfInBounds_toArray, List.set_cons_zero, List.set_cons_succ]
            repeat
              (refine ⟨_, ?_, rfl, ord_cell (by rfl) (fun w' hS => ?_), ?_⟩
               rotate_left
               · (go_simp; rfl)
               try simp only [Act.put, List.getElem_toArray, List.getElem_cons_zero, List.getElem_cons_succ, List.setIfInBounds_toArray, List.set_cons_zero, List.set_cons_succ])
            simp only [wpOrd]
            go_wp2_with fail
            go_ret3
            exact ⟨ret_trip HS3.out, (hx0.trans hxr).trans (hxx.trans ((Ext.refl _).drew.trans hx3))⟩
      · have hq' : (q2 != 0) = true := by rw [bne_iff_ne]; exact hq
        have HS3 := Lib.hid (show r = (0, 0, q2) by rw [hs, if_pos hq])
        clear hs hq
        go_wp2_with fail
        refine wp_region_ord [(0, true), (1, true), (2, true), (3, true), (4, true), (5, true), (6, false), (7, true), (8, true), (9, true), (10, true), (11, true)] (Ext wr) (by kernel_rfl) (by kernel_rfl) (by intro c a w d v h; cases d <;> exact h) (Ext.refl _).drew ?_
        repeat
          (refine ⟨_, ?_, rfl, ord_cell (by rfl) (fun w' hS => ?_), ?_⟩
           rotate_left
           · (have g6 := hS.cell hc2; go_simp; rfl)
           try simp only [Act.put, List.getElem_toArray, List.getElem_cons_zero, List.getElem_cons_succ, List.setIfInBounds_toArray, List.set_cons_zero, List.set_cons_succ])
        refine ⟨_, _, rfl, ord_row (by rfl) _ _ rfl b _ rfl _ _ hrr Try.underlying46 rfl info_clause, ?_⟩
        try simp only [Act.put, List.getElem_toArray, List.getElem_cons_zero, List.getElem_cons_succ, List.setIfInBounds_toArray, List.set_cons_zero, List.set_cons_succ]
        refine ⟨_, _, rfl, ord_row (by rfl) _ _ rfl (w.heap.size + 1) _ rfl x.cells _ hrx Try.underlying29 rfl (by rw [HXL.out]; exact info_env), ?_⟩
        try simp only [Act.put, List.getElem_toArray, List.getElem_cons_zero, List.getElem_cons_succ, List.setIfInBounds_toArray, List.set_cons_zero, List.set_cons_succ]
        refine ⟨_, rfl, by rfl, ?_⟩
        try simp only [List.getElem_toArray, List.getElem_cons_zero, List.getElem_cons_succ]
        go_step
        refine (HH.out _ (Ext.refl _).drew).mono ?_
        rintro e1 w2 ⟨rfl, hx2⟩
        refine ⟨(Ext.refl _).drew.trans hx2, ?_⟩
        try simp only [Act.put, List.getElem_toArray, List.getElem_cons_zero, List.getElem_cons_succ, List.setIfInBounds_toArray, List.set_cons_zero, List.set_cons_succ]
        repeat
          (refine ⟨_, ?_, rfl, ord_cell (by rfl) (fun w' hS => ?_), ?_⟩
           rotate_left
           · (go_simp; rfl)
           try simp only [Act.put, List.getElem_toArray, List.getElem_cons_zero, List.getElem_cons_succ, List.setIfInBounds_toArray, List.set_cons_zero, List.set_cons_succ])
        simp only [wpOrd]
        go_wp2_with fail
        go_ret3
        exact ⟨ret_trip HS3.out, (hx0.trans hxr).trans ((Ext.refl _).drew.trans hx2)⟩
    · have HS2 := Lib.hid (show r = (0, 0, 180) by rw [← HK.out, List.drop_of_length_le (by rw [HN.out]; omega)]; rfl)
      clear HK
      go_wp2_with fail
      go_ret3
      exact ⟨ret_trip HS2.out, hx0.trans hxr⟩
end Go.Proofs.Ytophdbbbojnobaa
