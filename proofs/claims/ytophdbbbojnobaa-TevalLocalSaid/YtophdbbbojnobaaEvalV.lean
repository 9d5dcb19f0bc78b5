/- What teval's evaluation of a well-formed expression returns, or the fault with which it panics. -/
import Derived.Test.YtophdbbbojnobaaProg
import Derived.Test.YtophdbbbojnobaaEvalU
namespace Go.Proofs.Ytophdbbbojnobaa
open Go.RowKit
set_option linter.unusedVariables false

theorem EvAt.frame2 {w : World} {X : Nat} {x : Ev} (h : EvAt w X x) (hx : x.ok) : ∃ M, w.cell? ⟨X, 17, none⟩ = some (.map (some M)) ∧ w.heap[M]? = some (.map (opMap X) 9) ∧ M < w.heap.size := by
  obtain ⟨M, h1, h2⟩ := h.frame hx
  refine ⟨M, h1, h2, ?_⟩
  rcases Nat.lt_or_ge M w.heap.size with h' | h'
  · exact h'
  · rw [Array.getElem?_eq_none h'] at h2; cases h2

set_option maxHeartbeats 4000000 in
theorem evalT_any (x : Ev) (hx : x.ok) (dn : Nat) : ∀ (d : Nat) (cs : List Value) (e : Ex) (X : Nat) (w : World), formF dn e = true → ExIn w d cs e → EvAt w X x →
    Calls Try.prog 31 #[.pointer (some ⟨X, 0, none⟩), .agg cs.toArray] w fun en w' => Outc (evalF dn e x) en ∧ Ext w w' := by
  induction dn with
  | zero => intro d cs e X w h; cases h
  | succ dn ih =>
    intro d cs e X w hf he hX
    have hev : evalF (dn + 1) e x = if e.op = 1 then (e.n, 0) else if e.op = 2 then loadF x e.n.toNat else
      if (evalF dn (e.l.getD 0 ex0) x).2 ≠ 0 then (0, (evalF dn (e.l.getD 0 ex0) x).2) else if (evalF dn (e.l.getD 1 ex0) x).2 ≠ 0 then (0, (evalF dn (e.l.getD 1 ex0) x).2) else
      if e.op ≠ 11 then applyF e.op (evalF dn (e.l.getD 0 ex0) x).1 (evalF dn (e.l.getD 1 ex0) x).1 else
      if (evalF dn (e.l.getD 0 ex0) x).1 < (evalF dn (e.l.getD 1 ex0) x).1 then evalF dn (e.l.getD 2 ex0) x else evalF dn (e.l.getD 3 ex0) x := rfl
    generalize evalF (dn + 1) e x = r at *
    have HV := Lib.hid hev
    clear hev
    have hxl : x.cells.length = 17 := by simp [Ev.cells, hx.1]
    by_cases h1 : e.op = 1
    · obtain ⟨A, cap, u0, u1, u2, u3, rfl, _⟩ := he.open_
      have hv := HV.out
      rw [if_pos h1] at hv
      have HV := Lib.hid hv
      rw [h1]
      clear hv h1 he ih hX
      go_enter Try.func31, Try.ntmps31
      go_wp2_with fail
      go_ret
      exact ⟨.inl ⟨by rw [HV.out], by rw [HV.out]; rfl⟩, (Ext.refl _).alloc _⟩
    by_cases h2 : e.op = 2
    · obtain ⟨A, cap, u0, u1, u2, u3, rfl, _⟩ := he.open_
      have hv := HV.out
      rw [if_neg h1, if_pos h2] at hv
      have hn := (formF_attr hf h2).2
      obtain ⟨n, hn2⟩ := Int.eq_ofNat_of_zero_le hn.1
      rw [h2]
      rw [hn2] at hv hn ⊢
      rw [Int.toNat_natCast] at hv
      have HV := Lib.hid hv
      have hn3 : n < 16 := by omega
      have hld := fun (W : World) (h : Ext w W) => loadT_in x n X W hx (hX.ext h) hn3
      have HLD := Lib.hid hld
      clear hv h1 h2 he ih hn2 hn hX hld
      go_enter Try.func31, Try.ntmps31
      go_wp2_with fail
      refine (HLD.out _ ((Ext.refl _).alloc _)).mono ?_
      rw [← HV.out]
      rintro e1 w1 ⟨⟨hz, rfl⟩ | ⟨hz, rfl⟩, hx1⟩
      · have HZ := Lib.hid hz
        clear hz
        go_wp2_with fail
        go_ret
        exact ⟨.inl ⟨HZ.out, rfl⟩, ((Ext.refl _).alloc _).trans hx1⟩
      · have HZ := Lib.hid hz
        clear hz
        go_wp2_with fail
        exact ⟨rfl, .inr ⟨HZ.out, rfl⟩, ((Ext.refl _).alloc _).trans hx1⟩
    obtain ⟨hop3, hop11, hl4, hl2, hfs⟩ := formF_open hf h1 h2
    have hlen : 2 ≤ e.l.length := by
      by_cases h : e.op = 11
      · have := hl4 h; omega
      · have := hl2 h; omega
    obtain ⟨b, o, cap, u0, u1, u2, u3, c0, rfl, hcap, hb, hl0, hr0, hE0⟩ := he.nth 0 (by omega)
    obtain ⟨b', o', cap', _, _, _, _, c1, hcs, _, hb1, hl1, hr1, hE1⟩ := he.nth 1 (by omega)
    simp only [List.cons.injEq, Value.int.injEq, Value.slice.injEq, Option.some.injEq, Addr.mk.injEq, true_and, and_true] at hcs
    obtain ⟨_, _, _, _, ⟨rfl, rfl⟩, rfl⟩ := hcs
    rw [Nat.zero_mul, Nat.add_zero] at hr0
    rw [Nat.one_mul] at hr1
    have hv := HV.out
    clear HV
    rw [if_neg h1, if_neg h2] at hv
    have HL0 := Lib.hid hl0
    have HL1 := Lib.hid hl1
    have HC0 : Hid (∀ W, Ext w W → Calls Try.prog 31 #[.pointer (some ⟨X, 0, none⟩), .agg c0.toArray] W fun en w' => Outc (evalF dn (e.l.getD 0 ex0) x) en ∧ Ext W w') :=
      Lib.hid fun W h => ih _ _ _ X W (hfs 0 (by omega)) (hE0.ext h) (hX.ext h)
    have HC1 : Hid (∀ W, Ext w W → Calls Try.prog 31 #[.pointer (some ⟨X, 0, none⟩), .agg c1.toArray] W fun en w' => Outc (evalF dn (e.l.getD 1 ex0) x) en ∧ Ext W w') :=
      Lib.hid fun W h => ih _ _ _ X W (hfs 1 (by omega)) (hE1.ext h) (hX.ext h)
    have hboth : Hid (∀ W, Ext w W → ∀ W', Ext W W' → Calls Try.prog 52 #[.pointer (some ⟨X, 0, none⟩), .slice (some ⟨b, o, none⟩) e.l.length cap] W' fun en w' =>
        Outc2 (evalF dn (e.l.getD 0 ex0) x) (evalF dn (e.l.getD 1 ex0) x) en ∧ Ext W' w') :=
      Lib.hid fun W h W' h' => both_any X b o _ cap c0 c1 _ _ W' hlen HL0 HL1 ((h.trans h').range hr0) ((h.trans h').range hr1)
        (Lib.hid fun V hV => HC0.out V ((h.trans h').trans hV)) (Lib.hid fun V hV => HC1.out V ((h.trans h').trans hV))
    have hdone : ∀ (fn : Nat) (i : Nat), (∀ args W, (callFunc fn args).run Try.prog W = .ok (.enter fn args) W) → (∀ W, Ext w W → Calls Try.prog fn #[.pointer (some ⟨X, 0, none⟩), .slice (some ⟨b, o, none⟩) e.l.length cap] W fun en w' => Outc r en ∧ Ext W w') →
        Instr.findNow (.int .i64) (.int .i64 e.op) (opMap X).toList 0 = some (some (i, .func (.func fn) #[.pointer (some ⟨X, 0, none⟩)] #[])) →
        Calls Try.prog 31 #[.pointer (some ⟨X, 0, none⟩), .agg [.int .i64 e.op, .int .i64 e.n, .int .i64 u0, .int .i64 u1, .int .i64 u2, .int .i64 u3, .slice (some ⟨b, o, none⟩) e.l.length cap].toArray] w fun en w' => Outc r en ∧ Ext w w' := by
      intro fn i hcf hcall hfind
      obtain ⟨M, hM1, hM2, hM3⟩ := hX.frame2 hx
      have g1 : (e.op == 1) = false := by simpa using h1
      have g2 : (e.op == 2) = false := by simpa using h2
      have HF := Lib.hid hfind
      have HCL := Lib.hid hcall
      have HM2 := Lib.hid hM2
      clear hv hfind hcall hboth HC0 HC1 HL0 HL1 hr0 hr1 hE0 hE1 hl0 hl1 hfs ih he hX hl2 hl4 hM2 hf h1 h2
      generalize e.op = op at *
      generalize e.n = nn at *
      generalize e.l.length = n at *
      go_enter Try.func31, Try.ntmps31
      go_wp2_with fail
      generalize hw0 : World.alloc _ _ = w0
      have hx0 : Ext w w0 := by rw [← hw0]; exact (Ext.refl _).alloc _
      have hc6 : w0.cell? ⟨w.heap.size, 6, none⟩ = some (.slice (some ⟨b, o, none⟩) n cap) := by rw [← hw0]; simp [go_sem]
      have hc0 : w0.cell? ⟨w.heap.size, 0, none⟩ = some (.int .i64 op) := by rw [← hw0]; simp [go_sem]
      have hc17 := hx0.cell hM1
      clear hw0
      refine wp_region_ord [(0, true), (1, true), (2, true), (3, true), (4, true), (5, true), (6, true), (7, true), (8, true), (9, false), (10, true)] (Ext w0) (by kernel_rfl) (by kernel_rfl) (by intro c a w d v h; cases d <;> exact h) (Ext.refl _).drew ?_
      repeat
        (refine ⟨_, ?_, rfl, ord_cell (by rfl) (fun w' hS => ?_), ?_⟩
         rotate_left
         · (have g0 := hS.cell hc0; have g6 := hS.cell hc6; have g17 := hS.cell hc17; go_simp; rfl)
         try simp only [Act.put, List.getElem_toArray, List.getElem_cons_zero, List.getElem_cons_succ, List.setIfInBounds_toArray, List.set_cons_zero, List.set_cons_succ])
      refine ⟨_, _, rfl, ord_lookup (by rfl) _ _ _ rfl _ _ _ _ _ _ _ _ rfl rfl Try.underlying74 Try.underlying3 ((hx0.block hM3).trans HM2.out) (Nat.lt_of_lt_of_le hM3 hx0.size) HF.out, ?_⟩
      try simp only [Act.put, List.getElem_toArray, List.getElem_cons_zero, List.getElem_cons_succ, List.setIfInBounds_toArray, List.set_cons_zero, List.set_cons_succ]
      repeat
        (refine ⟨_, ?_, rfl, ord_cell (by rfl) (fun w' hS => ?_), ?_⟩
         rotate_left
         · (have g0 := hS.cell hc0; have g6 := hS.cell hc6; have g17 := hS.cell hc17; go_simp; rfl)
         try simp only [Act.put, List.getElem_toArray, List.getElem_cons_zero, List.getElem_cons_succ, List.setIfInBounds_toArray, List.set_cons_zero, List.set_cons_succ])
      refine ⟨_, rfl, by rfl, ?_⟩
      try simp only [List.getElem_toArray, List.getElem_cons_zero, List.getElem_cons_succ]
      go_step
      refine (HCL.out _ hx0.drew).mono ?_
      rintro e1 w1 ⟨⟨hz, rfl⟩ | ⟨hz, rfl⟩, hx1⟩
      · have HZ := Lib.hid hz
        clear hz
        refine ⟨(Ext.refl _).drew.trans hx1, ?_⟩
        try simp only [Act.put, List.getElem_toArray, List.getElem_cons_zero, List.getElem_cons_succ, List.setIfInBounds_toArray, List.set_cons_zero, List.set_cons_succ]
        repeat
          (refine ⟨_, ?_, rfl, ord_cell (by rfl) (fun w' hS => ?_), ?_⟩
           rotate_left
           · (go_simp; rfl)
           try simp only [Act.put, List.getElem_toArray, List.getElem_cons_zero, List.getElem_cons_succ, List.setIfInBounds_toArray, List.set_cons_zero, List.set_cons_succ])
        simp only [wpOrd]
        go_wp2_with fail
        go_ret
        exact ⟨.inl ⟨HZ.out, rfl⟩, hx0.trans ((Ext.refl _).drew.trans hx1)⟩
      · have HZ := Lib.hid hz
        clear hz
        go_wp2_with fail
        exact ⟨rfl, .inr ⟨HZ.out, rfl⟩, hx0.trans ((Ext.refl _).drew.trans hx1)⟩
    have hn11 : ∀ f : Int → Int → Int × Int, e.op ≠ 11 → (∀ a b, applyF e.op a b = f a b) → r = comb (evalF dn (e.l.getD 0 ex0) x) (evalF dn (e.l.getD 1 ex0) x) f := by
      intro f h hf
      rw [hv, if_pos h, hf]
      rfl
    have hop : e.op = 3 ∨ e.op = 4 ∨ e.op = 5 ∨ e.op = 6 ∨ e.op = 7 ∨ e.op = 8 ∨ e.op = 9 ∨ e.op = 10 ∨ e.op = 11 := by omega
    rcases hop with h | h | h | h | h | h | h | h | h
    · refine hdone 41 0 (fun args W => by simp [go_sem]) (fun W hW => ?_) (by rw [h]; rfl)
      rw [hn11 (addF) (by omega) (fun a b => by rw [h]; rfl)]
      exact addT_any X b o _ cap _ _ W (Lib.hid fun W' h' => hboth.out W hW W' h')
    · refine hdone 42 1 (fun args W => by simp [go_sem]) (fun W hW => ?_) (by rw [h]; rfl)
      rw [hn11 (subF) (by omega) (fun a b => by rw [h]; rfl)]
      exact subT_any X b o _ cap _ _ W (Lib.hid fun W' h' => hboth.out W hW W' h')
    · refine hdone 43 2 (fun args W => by simp [go_sem]) (fun W hW => ?_) (by rw [h]; rfl)
      rw [hn11 (mulF) (by omega) (fun a b => by rw [h]; rfl)]
      exact mulT_any X b o _ cap _ _ W (Lib.hid fun W' h' => hboth.out W hW W' h')
    · refine hdone 44 3 (fun args W => by simp [go_sem]) (fun W hW => ?_) (by rw [h]; rfl)
      rw [hn11 (fun a b => (min a b, 0)) (by omega) (fun a b => by rw [h]; rfl)]
      exact leastT_any X b o _ cap _ _ W (Lib.hid fun W' h' => hboth.out W hW W' h')
    · refine hdone 45 4 (fun args W => by simp [go_sem]) (fun W hW => ?_) (by rw [h]; rfl)
      rw [hn11 (fun a b => (max a b, 0)) (by omega) (fun a b => by rw [h]; rfl)]
      exact greatestT_any X b o _ cap _ _ W (Lib.hid fun W' h' => hboth.out W hW W' h')
    · refine hdone 46 5 (fun args W => by simp [go_sem]) (fun W hW => ?_) (by rw [h]; rfl)
      rw [hn11 (fun a b => divF a b 8) (by omega) (fun a b => by rw [h]; rfl)]
      exact downT_any X b o _ cap _ _ W (Lib.hid fun W' h' => hboth.out W hW W' h')
    · refine hdone 47 6 (fun args W => by simp [go_sem]) (fun W hW => ?_) (by rw [h]; rfl)
      rw [hn11 (fun a b => divF a b 9) (by omega) (fun a b => by rw [h]; rfl)]
      exact upT_any X b o _ cap _ _ W (Lib.hid fun W' h' => hboth.out W hW W' h')
    · refine hdone 48 7 (fun args W => by simp [go_sem]) (fun W hW => ?_) (by rw [h]; rfl)
      rw [hn11 (fun a b => divF a b 10) (by omega) (fun a b => by rw [h]; rfl)]
      exact halfT_any X b o _ cap _ _ W (Lib.hid fun W' h' => hboth.out W hW W' h')
    · obtain ⟨b', o', cap', _, _, _, _, c2, hcs, _, _, hl2', hr2, hE2⟩ := he.nth 2 (by omega)
      simp only [List.cons.injEq, Value.int.injEq, Value.slice.injEq, Option.some.injEq, Addr.mk.injEq, true_and, and_true] at hcs
      obtain ⟨_, _, _, _, ⟨rfl, rfl⟩, rfl⟩ := hcs
      obtain ⟨b', o', cap', _, _, _, _, c3, hcs, _, _, hl3', hr3, hE3⟩ := he.nth 3 (by omega)
      simp only [List.cons.injEq, Value.int.injEq, Value.slice.injEq, Option.some.injEq, Addr.mk.injEq, true_and, and_true] at hcs
      obtain ⟨_, _, _, _, ⟨rfl, rfl⟩, rfl⟩ := hcs
      simp only [Nat.reduceMul] at hr2 hr3
      refine hdone 49 8 (fun args W => by simp [go_sem]) (fun W hW => ?_) (by rw [h]; rfl)
      rw [hv, if_neg (show ¬ (e.op ≠ 11) from fun hh => hh h)]
      exact chooseT_any X b o _ cap _ _ _ _ c2 c3 W (by omega) (Lib.hid hl2') (Lib.hid hl3') (hW.range hr2) (hW.range hr3) (Lib.hid fun W' h' => hboth.out W hW W' h')
        (Lib.hid fun W' h' => ih _ _ _ X W' (hfs 2 (by omega)) (hE2.ext (hW.trans h')) (hX.ext (hW.trans h'))) (Lib.hid fun W' h' => ih _ _ _ X W' (hfs 3 (by omega)) (hE3.ext (hW.trans h')) (hX.ext (hW.trans h')))
end Go.Proofs.Ytophdbbbojnobaa
