/- What the reference's evaluation of expressions returns. -/
import Derived.Test.YtophdbbbojnobaaProg
import Derived.Test.YtophdbbbojnobaaSize
import Derived.Test.YtophdbbbojnobaaMoney
import Derived.Test.YtophdbbbojnobaaRegion
namespace Go.Proofs.Ytophdbbbojnobaa
open Go.RowKit
set_option linter.unusedVariables false

theorem info_env : (Try.prog.info? 29).map (·.size) = some 17 := by kernel_rfl

theorem Ev.cell0 (x : Ev) : x.cells[0]? = some (.int .i64 x.has) := rfl
theorem Ev.cell (x : Ev) (hx : x.ok) (a : Nat) (ha : a < 16) : x.cells[1 + a]? = some (.int .i64 (x.v.getD a 0)) := by
  have h : a < x.v.length := by rw [hx.1]; exact ha
  rw [Nat.add_comm]
  simp [Ev.cells, h]

set_option maxHeartbeats 1000000 in
theorem loadR_any (x : Ev) (a : Nat) (w : World) (hx : x.ok) (ha : a < 16) :
    Calls Try.prog 34 #[.agg x.cells.toArray, .int .i64 a] w fun en w' => en = .returned (.tuple #[.int .i64 (loadF x a).1, .int .i64 (loadF x a).2]) ∧ Ext w w' := by
  have h0 := x.cell0
  have h1 := x.cell hx a ha
  generalize x.cells = cs at *
  generalize hy : x.v.getD a 0 = y at *
  have hL : loadF x a = if !bitF x.has a then (0, 181) else if inR y then (y, 0) else (0, 3) := by unfold loadF; rw [hy]
  have hbit : (bits .and .i64 (x.has / 2 ^ a) 1 == 0) = !bitF x.has a := by
    rw [and_one, bitF, Bool.eq_iff_iff]; simp; omega
  generalize loadF x a = r at *
  generalize hq : bits .and .i64 (x.has / 2 ^ a) 1 = q at hbit
  have HL := Lib.hid hL
  clear hL hy
  cases hb : bitF x.has a
  · rw [hb] at hbit HL
    have HB := Lib.hid hb
    clear hb
    go_enter Try.func34, Try.ntmps34
    go_wp2_with fail
    go_ret2
    exact ⟨ret_int2 (by rw [HL.out]; rfl) (by rw [HL.out]; rfl), (Ext.refl _).alloc _⟩
  · rw [hb] at hbit HL
    have HB := Lib.hid hb
    clear hb
    have hy3 : y < -9007199254740992 ∨ 9007199254740992 < y ∨ (-9007199254740992 ≤ y ∧ y ≤ 9007199254740992) := by omega
    rcases hy3 with h | h | ⟨g1, g2⟩
    · have hi : inR y = false := inR_not.2 (by omega)
      rw [hi] at HL
      clear hi
      go_enter Try.func34, Try.ntmps34
      go_wp2_with fail
      go_ret2
      exact ⟨ret_int2 (by rw [HL.out]; rfl) (by rw [HL.out]; rfl), (Ext.refl _).alloc _⟩
    · have hi : inR y = false := inR_not.2 (by omega)
      rw [hi] at HL
      clear hi
      go_enter Try.func34, Try.ntmps34
      go_wp2_with fail
      go_ret2
      exact ⟨ret_int2 (by rw [HL.out]; rfl) (by rw [HL.out]; rfl), (Ext.refl _).alloc _⟩
    · have hi : inR y = true := inR_iff.2 ⟨g1, g2⟩
      rw [hi] at HL
      clear hi
      go_enter Try.func34, Try.ntmps34
      go_wp2_with fail
      go_ret2
      exact ⟨ret_int2 (by rw [HL.out]; rfl) (by rw [HL.out]; rfl), (Ext.refl _).alloc _⟩

theorem min_ite (a b : Int) : (if a < b then a else b) = min a b := by omega

set_option maxHeartbeats 1000000 in
theorem applyR_any (op a b : Int) (w : World) :
    Calls Try.prog 50 #[.int .i64 op, .int .i64 a, .int .i64 b] w fun en w' => en = .returned (.tuple #[.int .i64 (applyF op a b).1, .int .i64 (applyF op a b).2]) ∧ w = w' := by
  by_cases h3 : op = 3
  · subst h3
    have e : applyF 3 a b = addF a b := rfl
    rw [e]
    go_enter Try.func50, Try.ntmps50
    go_wp2_with fail
    refine (radd_any _ _ _).mono ?_
    rintro e w1 ⟨rfl, rfl⟩
    go_wp2_with fail
    go_ret2
    exact ⟨rfl, rfl⟩
  by_cases h4 : op = 4
  · subst h4
    have e : applyF 4 a b = subF a b := rfl
    rw [e]
    go_enter Try.func50, Try.ntmps50
    go_wp2_with fail
    refine (rsub_any _ _ _).mono ?_
    rintro e w1 ⟨rfl, rfl⟩
    go_wp2_with fail
    go_ret2
    exact ⟨rfl, rfl⟩
  by_cases h5 : op = 5
  · subst h5
    have e : applyF 5 a b = mulF a b := rfl
    rw [e]
    go_enter Try.func50, Try.ntmps50
    go_wp2_with fail
    refine (rmul_any _ _ _).mono ?_
    rintro e w1 ⟨rfl, rfl⟩
    go_wp2_with fail
    go_ret2
    exact ⟨rfl, rfl⟩
  by_cases h6 : op = 6
  · subst h6
    have e : applyF 6 a b = (min a b, 0) := rfl
    rw [e]
    go_enter Try.func50, Try.ntmps50
    go_wp2_with fail
    all_goals go_ret2
    all_goals exact ⟨ret_int2 (by omega) rfl, rfl⟩
  by_cases h7 : op = 7
  · subst h7
    have e : applyF 7 a b = (max a b, 0) := rfl
    rw [e]
    go_enter Try.func50, Try.ntmps50
    go_wp2_with fail
    all_goals go_ret2
    all_goals exact ⟨ret_int2 (by omega) rfl, rfl⟩
  have e : applyF op a b = divF a b op := by unfold applyF; rw [if_neg h3, if_neg h4, if_neg h5, if_neg h6, if_neg h7]
  rw [e]
  have g3 : (op == 3) = false := by simpa using h3
  have g4 : (op == 4) = false := by simpa using h4
  have g5 : (op == 5) = false := by simpa using h5
  have g6 : (op == 6) = false := by simpa using h6
  have g7 : (op == 7) = false := by simpa using h7
  clear h3 h4 h5 h6 h7 e
  go_enter Try.func50, Try.ntmps50
  go_wp2_with fail
  refine (rdiv_any _ _ _ _).mono ?_
  rintro e w1 ⟨rfl, rfl⟩
  go_wp2_with fail
  go_ret2
  exact ⟨rfl, rfl⟩

/-- one operand of an expression in memory -/
theorem ExIn.nth {w : World} {d : Nat} {cs : List Value} {e : Ex} (h : ExIn w d cs e) (i : Nat) (hi : i < e.l.length) :
    ∃ b o cap u0 u1 u2 u3 cs', cs = [.int .i64 e.op, .int .i64 e.n, .int .i64 u0, .int .i64 u1, .int .i64 u2, .int .i64 u3, .slice (some ⟨b, o, none⟩) e.l.length cap] ∧ e.l.length ≤ cap ∧
      b < w.heap.size ∧ cs'.length = 7 ∧ w.rangeAt b (o + i * 7) cs' ∧ ExIn w (d - 1) cs' (e.l.getD i ex0) := by
  obtain ⟨A, cap, u0, u1, u2, u3, rfl, _, _, _, hc, hel⟩ := h.open_
  obtain ⟨b, o, rfl, hb, hi'⟩ := hel (by omega)
  obtain ⟨cs', h1, h2, h3⟩ := hi' i e.l[i] (List.getElem?_eq_getElem hi)
  exact ⟨b, o, cap, u0, u1, u2, u3, cs', rfl, hc, hb, h1, h2, by simpa [List.getD, hi] using h3⟩

theorem ret_pair {r : Int × Int} {a b : Int} (h : r = (a, b)) : Ending.returned (.tuple #[.int .i64 a, .int .i64 b]) = .returned (.tuple #[.int .i64 r.1, .int .i64 r.2]) := by rw [h]

set_option maxHeartbeats 2000000 in
theorem evalR_any (x : Ev) (hx : x.ok) (dn : Nat) : ∀ (d : Nat) (cs : List Value) (e : Ex) (w : World), formF dn e = true → ExIn w d cs e →
    Calls Try.prog 32 #[.agg cs.toArray, .agg x.cells.toArray] w fun en w' => en = .returned (.tuple #[.int .i64 (evalF dn e x).1, .int .i64 (evalF dn e x).2]) ∧ Ext w w' := by
  induction dn with
  | zero => intro d cs e w h; cases h
  | succ dn ih =>
    intro d cs e w hf he
    have hev : evalF (dn + 1) e x = if e.op = 1 then (e.n, 0) else if e.op = 2 then loadF x e.n.toNat else
      if (evalF dn (e.l.getD 0 ex0) x).2 ≠ 0 then (0, (evalF dn (e.l.getD 0 ex0) x).2) else if (evalF dn (e.l.getD 1 ex0) x).2 ≠ 0 then (0, (evalF dn (e.l.getD 1 ex0) x).2) else
      if e.op ≠ 11 then applyF e.op (evalF dn (e.l.getD 0 ex0) x).1 (evalF dn (e.l.getD 1 ex0) x).1 else
      if (evalF dn (e.l.getD 0 ex0) x).1 < (evalF dn (e.l.getD 1 ex0) x).1 then evalF dn (e.l.getD 2 ex0) x else evalF dn (e.l.getD 3 ex0) x := rfl
    generalize evalF (dn + 1) e x = r at *
    have HV := Lib.hid hev
    clear hev
    have hxl : x.cells.length = 17 := by simp [Ev.cells, hx.1]
    by_cases h1 : e.op = 1
    · obtain ⟨A, cap, u0, u1, u2, u3, rfl, _⟩ := he.open_
      have hv := HV.out; clear HV
      rw [if_pos h1] at hv
      have HV := Lib.hid hv
      rw [h1]
      clear hv h1 he ih
      go_enter Try.func32, Try.ntmps32
      go_wp2_with fail
      go_ret2
      exact ⟨ret_pair HV.out, ((Ext.refl _).alloc _).alloc _⟩
    by_cases h2 : e.op = 2
    · obtain ⟨A, cap, u0, u1, u2, u3, rfl, _⟩ := he.open_
      have hv := HV.out; clear HV
      rw [if_neg h1, if_pos h2] at hv
      have hn := (formF_attr hf h2).2
      obtain ⟨n, hn2⟩ := Int.eq_ofNat_of_zero_le hn.1
      rw [h2]
      rw [hn2] at hv hn ⊢
      rw [Int.toNat_natCast] at hv
      have HV := Lib.hid hv
      have hn3 : n < 16 := by omega
      clear hv h1 h2 he ih hn2 hn
      go_enter Try.func32, Try.ntmps32
      have hxr : ∀ o, ((w.alloc o).alloc (.cells x.cells.toArray 29)).rangeAt (w.heap.size + 1) 0 x.cells := by
        intro o j v hv; simp [go_sem, hv]
      have HX := Lib.hid hxr
      clear hxr
      go_wp2_with (refine wpList_load_mid rfl 29 _ rfl (w.heap.size + 1) 0 rfl x.cells _ (HX.out _) Try.underlying29 rfl (by rw [hxl]; exact info_env) ?_)
      refine (loadR_any x n _ hx hn3).mono ?_
      rintro e1 w1 ⟨rfl, hx1⟩
      go_wp2_with fail
      go_ret2
      exact ⟨ret_int2 (by rw [HV.out]) (by rw [HV.out]), (((Ext.refl _).alloc _).alloc _).trans hx1⟩
    have g1 : (e.op == 1) = false := by simpa using h1
    have g2 : (e.op == 2) = false := by simpa using h2
    obtain ⟨hop3, hop11, hl4, hl2, hfs⟩ := formF_open hf h1 h2
    have hlen : 2 ≤ e.l.length := by
      by_cases h : e.op = 11
      · have := hl4 h; omega
      · have := hl2 h; omega
    obtain ⟨b, o, cap, u0, u1, u2, u3, c0, rfl, hcap, hb, hl0, hr0, hE0⟩ := he.nth 0 (by omega)
    obtain ⟨b', o', cap', _, _, _, _, c1, hcs, _, hb1, hl1, hr1, hE1⟩ := he.nth 1 (by omega)
    simp only [List.cons.injEq, Value.int.injEq, Value.slice.injEq, Option.some.injEq, Addr.mk.injEq, true_and, and_true] at hcs
    obtain ⟨_, _, _, _, ⟨rfl, rfl⟩, rfl⟩ := hcs
    have hn0 : 0 < e.l.length := by omega
    have hn1 : (1 : Int) < (e.l.length : Int) := by omega
    have hv := HV.out; clear HV
    rw [if_neg h1, if_neg h2] at hv
    have HV := Lib.hid hv
    have hf0 := hfs 0 hn0
    have hf1 := hfs 1 (by omega)
    have HH := Lib.hid he
    have HFS := Lib.hid hfs
    have HL0 := Lib.hid hl0
    have HL1 := Lib.hid hl1
    clear hv h1 h2 he hf hl0 hl1 hfs
    go_enter Try.func32, Try.ntmps32
    go_wp2_with fail
    generalize hw0 : World.alloc _ _ = w0
    have hx0 : Ext w w0 := by rw [← hw0]; exact ((Ext.refl _).alloc _).alloc _
    have hc6 : w0.cell? ⟨w.heap.size, 6, none⟩ = some (.slice (some ⟨b, o, none⟩) e.l.length cap) := by rw [← hw0]; simp [go_sem]
    have hc0 : w0.cell? ⟨w.heap.size, 0, none⟩ = some (.int .i64 e.op) := by rw [← hw0]; simp [go_sem]
    have hxr : w0.rangeAt (w.heap.size + 1) 0 x.cells := by
      rw [← hw0]; intro j v hv; simp [go_sem, hv]
    clear hw0
    replace hr0 := hx0.range hr0
    replace hr1 := hx0.range hr1
    rw [Nat.zero_mul, Nat.add_zero] at hr0
    rw [Nat.one_mul] at hr1
    have HC0 := Lib.hid fun (W : World) (h : Ext w0 W) => ih _ _ _ W hf0 ((hE0.ext hx0).ext h)
    have HC1 := Lib.hid fun (W : World) (h : Ext w0 W) => ih _ _ _ W hf1 ((hE1.ext hx0).ext h)
    have IH := Lib.hid ih
    clear ih hE0 hE1
    generalize evalF dn (e.l.getD 0 ex0) x = p0 at *
    generalize evalF dn (e.l.getD 1 ex0) x = p1 at *
    obtain ⟨n0, e0⟩ := p0
    obtain ⟨n1, e1⟩ := p1
    by_cases hz0 : e0 = 0
    · subst hz0
      have hv := HV.out; clear HV
      rw [if_neg (by simp)] at hv
      have HV := Lib.hid hv
      clear hv
      refine wp_region_ord [(0, true), (1, true), (2, true), (3, true), (4, true), (5, false), (6, true), (7, true), (8, true), (9, true), (10, true)] (Ext w0) (by kernel_rfl) (by kernel_rfl) (by intro c a w d v h; cases d <;> exact h) (Ext.refl _).drew ?_
      repeat
        (refine ⟨_, ?_, rfl, ord_cell (by rfl) (fun w' hS => ?_), ?_⟩
         rotate_left
         · (have g6 := hS.cell hc6; go_simp; rfl)
         try simp only [Act.put, List.getElem_toArray, List.getElem_cons_zero, List.getElem_cons_succ, List.setIfInBounds_toArray, List.set_cons_zero, List.set_cons_succ])
      refine ⟨_, _, rfl, ord_row (by rfl) _ _ rfl b _ rfl c0 _ hr0 Try.underlying26 rfl (by rw [HL0.out]; exact info_expr), ?_⟩
      try simp only [Act.put, List.getElem_toArray, List.getElem_cons_zero, List.getElem_cons_succ, List.setIfInBounds_toArray, List.set_cons_zero, List.set_cons_succ]
      refine ⟨_, _, rfl, ord_row (by rfl) _ _ rfl (w.heap.size + 1) _ rfl x.cells _ hxr Try.underlying29 rfl (by rw [hxl]; exact info_env), ?_⟩
      try simp only [Act.put, List.getElem_toArray, List.getElem_cons_zero, List.getElem_cons_succ, List.setIfInBounds_toArray, List.set_cons_zero, List.set_cons_succ]
      refine ⟨_, rfl, by rfl, ?_⟩
      try simp only [List.getElem_toArray, List.getElem_cons_zero, List.getElem_cons_succ]
      go_step
      refine (HC0.out _ (Ext.refl _).drew).mono ?_
      rintro e1 w1 ⟨rfl, hx1⟩
      refine ⟨(Ext.refl _).drew.trans hx1, ?_⟩
      try simp only [Act.put, List.getElem_toArray, List.getElem_cons_zero, List.getElem_cons_succ, List.setIfInBounds_toArray, List.set_cons_zero, List.set_cons_succ]
      repeat
        (refine ⟨_, ?_, rfl, ord_cell (by rfl) (fun w' hS => ?_), ?_⟩
         rotate_left
         · (go_simp; rfl)
         try simp only [Act.put, List.getElem_toArray, List.getElem_cons_zero, List.getElem_cons_succ, List.setIfInBounds_toArray, List.set_cons_zero, List.set_cons_succ])
      simp only [wpOrd]
      have hx2 : Ext w0 w1 := (Ext.refl _).drew.trans hx1
      clear hx1
      replace hc6 := hx2.cell hc6
      replace hc0 := hx2.cell hc0
      replace hxr := hx2.range hxr
      replace hr1 := hx2.range hr1
      replace HC1 := Lib.hid fun (W : World) (h : Ext w1 W) => HC1.out W (hx2.trans h)
      replace hx0 := hx0.trans hx2
      clear hx2
      clear HC0 hr0 HL0
      generalize w1 = w0 at *
      go_wp2_with fail
      by_cases hz1 : e1 = 0
      · subst hz1
        have hv := HV.out; clear HV
        rw [if_neg (by simp)] at hv
        have HV := Lib.hid hv
        clear hv
        refine wp_region_ord [(0, true), (1, true), (2, true), (3, true), (4, true), (5, false), (6, true), (7, true), (8, true), (9, true), (10, true)] (Ext w0) (by kernel_rfl) (by kernel_rfl) (by intro c a w d v h; cases d <;> exact h) (Ext.refl _).drew ?_
        repeat
          (refine ⟨_, ?_, rfl, ord_cell (by rfl) (fun w' hS => ?_), ?_⟩
           rotate_left
           · (have g6 := hS.cell hc6; go_simp; rfl)
           try simp only [Act.put, List.getElem_toArray, List.getElem_cons_zero, List.getElem_cons_succ, List.setIfInBounds_toArray, List.set_cons_zero, List.set_cons_succ])
        refine ⟨_, _, rfl, ord_row (by rfl) _ _ rfl b _ rfl c1 _ hr1 Try.underlying26 rfl (by rw [HL1.out]; exact info_expr), ?_⟩
        try simp only [Act.put, List.getElem_toArray, List.getElem_cons_zero, List.getElem_cons_succ, List.setIfInBounds_toArray, List.set_cons_zero, List.set_cons_succ]
        refine ⟨_, _, rfl, ord_row (by rfl) _ _ rfl (w.heap.size + 1) _ rfl x.cells _ hxr Try.underlying29 rfl (by rw [hxl]; exact info_env), ?_⟩
        try simp only [Act.put, List.getElem_toArray, List.getElem_cons_zero, List.getElem_cons_succ, List.setIfInBounds_toArray, List.set_cons_zero, List.set_cons_succ]
        refine ⟨_, rfl, by rfl, ?_⟩
        try simp only [List.getElem_toArray, List.getElem_cons_zero, List.getElem_cons_succ]
        go_step
        refine (HC1.out _ (Ext.refl _).drew).mono ?_
        rintro e1 w1 ⟨rfl, hx1⟩
        refine ⟨(Ext.refl _).drew.trans hx1, ?_⟩
        try simp only [Act.put, List.getElem_toArray, List.getElem_cons_zero, List.getElem_cons_succ, List.setIfInBounds_toArray, List.set_cons_zero, List.set_cons_succ]
        repeat
          (refine ⟨_, ?_, rfl, ord_cell (by rfl) (fun w' hS => ?_), ?_⟩
           rotate_left
           · (go_simp; rfl)
           try simp only [Act.put, List.getElem_toArray, List.getElem_cons_zero, List.getElem_cons_succ, List.setIfInBounds_toArray, List.set_cons_zero, List.set_cons_succ])
        simp only [wpOrd]
        have hx2 : Ext w0 w1 := (Ext.refl _).drew.trans hx1
        clear hx1
        replace hc6 := hx2.cell hc6
        replace hc0 := hx2.cell hc0
        replace hxr := hx2.range hxr
        replace hx0 := hx0.trans hx2
        clear hx2 HC1 hr1 HL1
        generalize w1 = w0 at *
        by_cases hop : e.op = 11
        · have b11 : (e.op != 11) = false := by rw [bne_eq_false_iff_eq]; exact hop
          have hl4 := hl4 hop
          have hv := HV.out; clear HV
          rw [if_neg (by simpa using hop)] at hv
          by_cases hlt : n0 < n1
          · rw [if_pos hlt] at hv
            have HV := Lib.hid hv
            clear hv hop hl2
            obtain ⟨b', o', cap', _, _, _, _, c2, hcs, _, hb1, hl2, hr2, hE2⟩ := HH.out.nth 2 (by omega)
            simp only [List.cons.injEq, Value.int.injEq, Value.slice.injEq, Option.some.injEq, Addr.mk.injEq, true_and, and_true] at hcs
            obtain ⟨_, _, _, _, ⟨rfl, rfl⟩, rfl⟩ := hcs
            have HL2 := Lib.hid hl2
            have HC2 := Lib.hid fun (W : World) (h : Ext w0 W) => IH.out _ _ _ W (HFS.out 2 (by omega)) ((hE2.ext hx0).ext h)
            have hn2 : (2 : Int) < (e.l.length : Int) := by omega
            replace hr2 := hx0.range hr2
            simp only [Nat.reduceMul] at hr2
            clear hl2 hE2 HH IH HFS hl4
            generalize evalF dn (e.l.getD 2 ex0) x = p2 at *
            obtain ⟨n2, e2⟩ := p2
            go_wp2_with fail
            refine wp_region_ord [(0, true), (1, true), (2, true), (3, true), (4, true), (5, false), (6, true), (7, true), (8, true), (9, true)] (Ext w0) (by kernel_rfl) (by kernel_rfl) (by intro c a w d v h; cases d <;> exact h) (Ext.refl _).drew ?_
            repeat
              (refine ⟨_, ?_, rfl, ord_cell (by rfl) (fun w' hS => ?_), ?_⟩
               rotate_left
               · (have g6 := hS.cell hc6; go_simp; rfl)
               try simp only [Act.put, List.getElem_toArray, List.getElem_cons_zero, List.getElem_cons_succ, List.setIfInBounds_toArray, List.set_cons_zero, List.set_cons_succ])
            refine ⟨_, _, rfl, ord_row (by rfl) _ _ rfl b _ rfl c2 _ hr2 Try.underlying26 rfl (by rw [HL2.out]; exact info_expr), ?_⟩
            try simp only [Act.put, List.getElem_toArray, List.getElem_cons_zero, List.getElem_cons_succ, List.setIfInBounds_toArray, List.set_cons_zero, List.set_cons_succ]
            refine ⟨_, _, rfl, ord_row (by rfl) _ _ rfl (w.heap.size + 1) _ rfl x.cells _ hxr Try.underlying29 rfl (by rw [hxl]; exact info_env), ?_⟩
            try simp only [Act.put, List.getElem_toArray, List.getElem_cons_zero, List.getElem_cons_succ, List.setIfInBounds_toArray, List.set_cons_zero, List.set_cons_succ]
            refine ⟨_, rfl, by rfl, ?_⟩
            try simp only [List.getElem_toArray, List.getElem_cons_zero, List.getElem_cons_succ]
            go_step
            refine (HC2.out _ (Ext.refl _).drew).mono ?_
            rintro e1 w1 ⟨rfl, hx1⟩
            refine ⟨(Ext.refl _).drew.trans hx1, ?_⟩
            try simp only [Act.put, List.getElem_toArray, List.getElem_cons_zero, List.getElem_cons_succ, List.setIfInBounds_toArray, List.set_cons_zero, List.set_cons_succ]
            repeat
              (refine ⟨_, ?_, rfl, ord_cell (by rfl) (fun w' hS => ?_), ?_⟩
               rotate_left
               · (go_simp; rfl)
               try simp only [Act.put, List.getElem_toArray, List.getElem_cons_zero, List.getElem_cons_succ, List.setIfInBounds_toArray, List.set_cons_zero, List.set_cons_succ])
            simp only [wpOrd]
            go_wp2_with fail
            go_ret2
            exact ⟨ret_pair HV.out, hx0.trans ((Ext.refl _).drew.trans hx1)⟩
          · rw [if_neg hlt] at hv
            have HV := Lib.hid hv
            clear hv hop hl2
            obtain ⟨b', o', cap', _, _, _, _, c3, hcs, _, hb1, hl3, hr3, hE3⟩ := HH.out.nth 3 (by omega)
            simp only [List.cons.injEq, Value.int.injEq, Value.slice.injEq, Option.some.injEq, Addr.mk.injEq, true_and, and_true] at hcs
            obtain ⟨_, _, _, _, ⟨rfl, rfl⟩, rfl⟩ := hcs
            have HL3 := Lib.hid hl3
            have HC3 := Lib.hid fun (W : World) (h : Ext w0 W) => IH.out _ _ _ W (HFS.out 3 (by omega)) ((hE3.ext hx0).ext h)
            have hn3 : (3 : Int) < (e.l.length : Int) := by omega
            replace hr3 := hx0.range hr3
            simp only [Nat.reduceMul] at hr3
            clear hl3 hE3 HH IH HFS hl4
            generalize evalF dn (e.l.getD 3 ex0) x = p3 at *
            obtain ⟨n3, e3⟩ := p3
            go_wp2_with fail
            refine wp_region_ord [(0, true), (1, true), (2, true), (3, true), (4, true), (5, false), (6, true), (7, true), (8, true), (9, true)] (Ext w0) (by kernel_rfl) (by kernel_rfl) (by intro c a w d v h; cases d <;> exact h) (Ext.refl _).drew ?_
            repeat
              (refine ⟨_, ?_, rfl, ord_cell (by rfl) (fun w' hS => ?_), ?_⟩
               rotate_left
               · (have g6 := hS.cell hc6; go_simp; rfl)
               try simp only [Act.put, List.getElem_toArray, List.getElem_cons_zero, List.getElem_cons_succ, List.setIfInBounds_toArray, List.set_cons_zero, List.set_cons_succ])
            refine ⟨_, _, rfl, ord_row (by rfl) _ _ rfl b _ rfl c3 _ hr3 Try.underlying26 rfl (by rw [HL3.out]; exact info_expr), ?_⟩
            try simp only [Act.put, List.getElem_toArray, List.getElem_cons_zero, List.getElem_cons_succ, List.setIfInBounds_toArray, List.set_cons_zero, List.set_cons_succ]
            refine ⟨_, _, rfl, ord_row (by rfl) _ _ rfl (w.heap.size + 1) _ rfl x.cells _ hxr Try.underlying29 rfl (by rw [hxl]; exact info_env), ?_⟩
            try simp only [Act.put, List.getElem_toArray, List.getElem_cons_zero, List.getElem_cons_succ, List.setIfInBounds_toArray, List.set_cons_zero, List.set_cons_succ]
            refine ⟨_, rfl, by rfl, ?_⟩
            try simp only [List.getElem_toArray, List.getElem_cons_zero, List.getElem_cons_succ]
            go_step
            refine (HC3.out _ (Ext.refl _).drew).mono ?_
            rintro e1 w1 ⟨rfl, hx1⟩
            refine ⟨(Ext.refl _).drew.trans hx1, ?_⟩
            try simp only [Act.put, List.getElem_toArray, List.getElem_cons_zero, List.getElem_cons_succ, List.setIfInBounds_toArray, List.set_cons_zero, List.set_cons_succ]
            repeat
              (refine ⟨_, ?_, rfl, ord_cell (by rfl) (fun w' hS => ?_), ?_⟩
               rotate_left
               · (go_simp; rfl)
               try simp only [Act.put, List.getElem_toArray, List.getElem_cons_zero, List.getElem_cons_succ, List.setIfInBounds_toArray, List.set_cons_zero, List.set_cons_succ])
            simp only [wpOrd]
            go_wp2_with fail
            go_ret2
            exact ⟨ret_pair HV.out, hx0.trans ((Ext.refl _).drew.trans hx1)⟩
        · have b11 : (e.op != 11) = true := by rw [bne_iff_ne]; exact hop
          have hv := HV.out; clear HV
          rw [if_pos hop] at hv
          have HV := Lib.hid hv
          clear hv hop hl4 hl2
          go_wp2_with fail
          refine (applyR_any _ _ _ _).mono ?_
          rintro e1 w1 ⟨rfl, rfl⟩
          go_wp2_with fail
          go_ret2
          exact ⟨ret_int2 (by rw [HV.out]) (by rw [HV.out]), hx0⟩
      · have b1 : (e1 != 0) = true := by rw [bne_iff_ne]; exact hz1
        have hv := HV.out; clear HV
        rw [if_pos hz1] at hv
        have HV := Lib.hid hv
        clear hv hz1
        refine wp_region_ord [(0, true), (1, true), (2, true), (3, true), (4, true), (5, false), (6, true), (7, true), (8, true), (9, true), (10, true)] (Ext w0) (by kernel_rfl) (by kernel_rfl) (by intro c a w d v h; cases d <;> exact h) (Ext.refl _).drew ?_
        repeat
          (refine ⟨_, ?_, rfl, ord_cell (by rfl) (fun w' hS => ?_), ?_⟩
           rotate_left
           · (have g6 := hS.cell hc6; go_simp; rfl)
           try simp only [Act.put, List.getElem_toArray, List.getElem_cons_zero, List.getElem_cons_succ, List.setIfInBounds_toArray, List.set_cons_zero, List.set_cons_succ])
        refine ⟨_, _, rfl, ord_row (by rfl) _ _ rfl b _ rfl c1 _ hr1 Try.underlying26 rfl (by rw [HL1.out]; exact info_expr), ?_⟩
        try simp only [Act.put, List.getElem_toArray, List.getElem_cons_zero, List.getElem_cons_succ, List.setIfInBounds_toArray, List.set_cons_zero, List.set_cons_succ]
        refine ⟨_, _, rfl, ord_row (by rfl) _ _ rfl (w.heap.size + 1) _ rfl x.cells _ hxr Try.underlying29 rfl (by rw [hxl]; exact info_env), ?_⟩
        try simp only [Act.put, List.getElem_toArray, List.getElem_cons_zero, List.getElem_cons_succ, List.setIfInBounds_toArray, List.set_cons_zero, List.set_cons_succ]
        refine ⟨_, rfl, by rfl, ?_⟩
        try simp only [List.getElem_toArray, List.getElem_cons_zero, List.getElem_cons_succ]
        go_step
        refine (HC1.out _ (Ext.refl _).drew).mono ?_
        rintro e1 w1 ⟨rfl, hx1⟩
        refine ⟨(Ext.refl _).drew.trans hx1, ?_⟩
        try simp only [Act.put, List.getElem_toArray, List.getElem_cons_zero, List.getElem_cons_succ, List.setIfInBounds_toArray, List.set_cons_zero, List.set_cons_succ]
        repeat
          (refine ⟨_, ?_, rfl, ord_cell (by rfl) (fun w' hS => ?_), ?_⟩
           rotate_left
           · (go_simp; rfl)
           try simp only [Act.put, List.getElem_toArray, List.getElem_cons_zero, List.getElem_cons_succ, List.setIfInBounds_toArray, List.set_cons_zero, List.set_cons_succ])
        simp only [wpOrd]
        go_wp2_with fail
        go_ret2
        exact ⟨ret_pair HV.out, hx0.trans ((Ext.refl _).drew.trans hx1)⟩
    · have b0 : (e0 != 0) = true := by rw [bne_iff_ne]; exact hz0
      have hv := HV.out; clear HV
      rw [if_pos hz0] at hv
      have HV := Lib.hid hv
      clear hv hz0
      refine wp_region_ord [(0, true), (1, true), (2, true), (3, true), (4, true), (5, false), (6, true), (7, true), (8, true), (9, true), (10, true)] (Ext w0) (by kernel_rfl) (by kernel_rfl) (by intro c a w d v h; cases d <;> exact h) (Ext.refl _).drew ?_
      repeat
        (refine ⟨_, ?_, rfl, ord_cell (by rfl) (fun w' hS => ?_), ?_⟩
         rotate_left
         · (have g6 := hS.cell hc6; go_simp; rfl)
         try simp only [Act.put, List.getElem_toArray, List.getElem_cons_zero, List.getElem_cons_succ, List.setIfInBounds_toArray, List.set_cons_zero, List.set_cons_succ])
      refine ⟨_, _, rfl, ord_row (by rfl) _ _ rfl b _ rfl c0 _ hr0 Try.underlying26 rfl (by rw [HL0.out]; exact info_expr), ?_⟩
      try simp only [Act.put, List.getElem_toArray, List.getElem_cons_zero, List.getElem_cons_succ, List.setIfInBounds_toArray, List.set_cons_zero, List.set_cons_succ]
      refine ⟨_, _, rfl, ord_row (by rfl) _ _ rfl (w.heap.size + 1) _ rfl x.cells _ hxr Try.underlying29 rfl (by rw [hxl]; exact info_env), ?_⟩
      try simp only [Act.put, List.getElem_toArray, List.getElem_cons_zero, List.getElem_cons_succ, List.setIfInBounds_toArray, List.set_cons_zero, List.set_cons_succ]
      refine ⟨_, rfl, by rfl, ?_⟩
      try simp only [List.getElem_toArray, List.getElem_cons_zero, List.getElem_cons_succ]
      go_step
      refine (HC0.out _ (Ext.refl _).drew).mono ?_
      rintro e1 w1 ⟨rfl, hx1⟩
      refine ⟨(Ext.refl _).drew.trans hx1, ?_⟩
      try simp only [Act.put, List.getElem_toArray, List.getElem_cons_zero, List.getElem_cons_succ, List.setIfInBounds_toArray, List.set_cons_zero, List.set_cons_succ]
      repeat
        (refine ⟨_, ?_, rfl, ord_cell (by rfl) (fun w' hS => ?_), ?_⟩
         rotate_left
         · (go_simp; rfl)
         try simp only [Act.put, List.getElem_toArray, List.getElem_cons_zero, List.getElem_cons_succ, List.setIfInBounds_toArray, List.set_cons_zero, List.set_cons_succ])
      simp only [wpOrd]
      go_wp2_with fail
      go_ret2
      exact ⟨ret_pair HV.out, hx0.trans ((Ext.refl _).drew.trans hx1)⟩
end Go.Proofs.Ytophdbbbojnobaa
