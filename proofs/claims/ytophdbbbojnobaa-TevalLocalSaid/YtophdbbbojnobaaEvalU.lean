/- What the methods of teval's evaluator return: both, add, sub, mul, least, greatest, divide, down, up, half, choose. -/
import Derived.Test.YtophdbbbojnobaaProg
import Derived.Test.YtophdbbbojnobaaEvalT
namespace Go.Proofs.Ytophdbbbojnobaa
open Go.RowKit
set_option linter.unusedVariables false

/-- two values, or a panic with the first error -/
def Outc2 (p q : Int × Int) (en : Ending) : Prop :=
  (p.2 ≠ 0 ∧ en = .panicked (fchain p.2)) ∨ (p.2 = 0 ∧ q.2 ≠ 0 ∧ en = .panicked (fchain q.2)) ∨ (p.2 = 0 ∧ q.2 = 0 ∧ en = .returned (.tuple #[.int .i64 p.1, .int .i64 q.1]))
/-- an operation on two values, or the first error -/
def comb (p q : Int × Int) (f : Int → Int → Int × Int) : Int × Int := if p.2 ≠ 0 then (0, p.2) else if q.2 ≠ 0 then (0, q.2) else f p.1 q.1

theorem comb_l {p q : Int × Int} {f : Int → Int → Int × Int} (h : p.2 ≠ 0) : comb p q f = (0, p.2) := if_pos h
theorem comb_r {p q : Int × Int} {f : Int → Int → Int × Int} (h : p.2 = 0) (h' : q.2 ≠ 0) : comb p q f = (0, q.2) := by
  unfold comb; rw [if_neg (by simpa using h), if_pos h']
theorem comb_ok {p q : Int × Int} {f : Int → Int → Int × Int} (h : p.2 = 0) (h' : q.2 = 0) : comb p q f = f p.1 q.1 := by
  unfold comb; rw [if_neg (by simpa using h), if_neg (by simpa using h')]

set_option maxHeartbeats 1000000 in
theorem both_any (X b o n cap : Nat) (c0 c1 : List Value) (p q : Int × Int) (w : World) (hn : 2 ≤ n) (hl0 : Hid (c0.length = 7)) (hl1 : Hid (c1.length = 7))
    (hr0 : w.rangeAt b o c0) (hr1 : w.rangeAt b (o + 7) c1)
    (h0 : Hid (∀ W, Ext w W → Calls Try.prog 31 #[.pointer (some ⟨X, 0, none⟩), .agg c0.toArray] W fun en w' => Outc p en ∧ Ext W w'))
    (h1 : Hid (∀ W, Ext w W → Calls Try.prog 31 #[.pointer (some ⟨X, 0, none⟩), .agg c1.toArray] W fun en w' => Outc q en ∧ Ext W w')) :
    Calls Try.prog 52 #[.pointer (some ⟨X, 0, none⟩), .slice (some ⟨b, o, none⟩) n cap] w fun en w' => Outc2 p q en ∧ Ext w w' := by
  have hn0 : 0 < n := by omega
  have hn1 : (1 : Int) < (n : Int) := by omega
  go_enter Try.func52, Try.ntmps52
  go_wp2_with (refine wpList_load_mid rfl 26 _ rfl b o rfl c0 _ hr0 Try.underlying26 rfl (by rw [hl0.out]; exact info_expr) ?_)
  refine (h0.out _ (Ext.refl _)).mono ?_
  rintro e1 w1 ⟨⟨hz, rfl⟩ | ⟨hz, rfl⟩, hx1⟩
  · have HZ := Lib.hid hz
    clear hz
    have hr2 := hx1.range hr1
    go_wp2_with (refine wpList_load_mid rfl 26 _ rfl b (o + 7) rfl c1 _ hr2 Try.underlying26 rfl (by rw [hl1.out]; exact info_expr) ?_)
    refine (h1.out _ hx1).mono ?_
    rintro e2 w2 ⟨⟨hz, rfl⟩ | ⟨hz, rfl⟩, hx2⟩
    · have HY := Lib.hid hz
      clear hz
      go_wp2_with fail
      go_ret2
      exact ⟨.inr (.inr ⟨HZ.out, HY.out, rfl⟩), hx1.trans hx2⟩
    · have HY := Lib.hid hz
      clear hz
      go_wp2_with fail
      exact ⟨rfl, .inr (.inl ⟨HZ.out, HY.out, rfl⟩), hx1.trans hx2⟩
  · have HZ := Lib.hid hz
    clear hz
    go_wp2_with fail
    exact ⟨rfl, .inl ⟨HZ.out, rfl⟩, hx1⟩

set_option maxHeartbeats 1000000 in
theorem addT_any (X b o n cap : Nat) (p q : Int × Int) (w : World)
    (hb : Hid (∀ W, Ext w W → Calls Try.prog 52 #[.pointer (some ⟨X, 0, none⟩), .slice (some ⟨b, o, none⟩) n cap] W fun en w' => Outc2 p q en ∧ Ext W w')) :
    Calls Try.prog 41 #[.pointer (some ⟨X, 0, none⟩), .slice (some ⟨b, o, none⟩) n cap] w fun en w' => Outc (comb p q addF) en ∧ Ext w w' := by
  obtain ⟨r, hr⟩ : ∃ r, comb p q addF = r := ⟨_, rfl⟩
  rw [hr]
  have HR := Lib.hid hr
  clear hr
  go_enter Try.func41, Try.ntmps41
  go_wp2_with fail
  refine (hb.out _ (Ext.refl _)).mono ?_
  rintro e1 w1 ⟨⟨h1, rfl⟩ | ⟨h1, h2, rfl⟩ | ⟨h1, h2, rfl⟩, hx1⟩
  · have H1 := Lib.hid h1
    clear h1
    go_wp2_with fail
    exact ⟨rfl, .inr (by rw [← HR.out, comb_l H1.out]; exact ⟨H1.out, rfl⟩), hx1⟩
  · have H1 := Lib.hid h1
    have H2 := Lib.hid h2
    clear h1 h2
    go_wp2_with fail
    exact ⟨rfl, .inr (by rw [← HR.out, comb_r H1.out H2.out]; exact ⟨H2.out, rfl⟩), hx1⟩
  · have H1 := Lib.hid h1
    have H2 := Lib.hid h2
    have hr : r = addF p.1 q.1 := by rw [← HR.out, comb_ok H1.out H2.out]
    have HR2 := Lib.hid hr
    clear h1 h2 hr HR
    go_wp2_with fail
    refine (add_any _ _ _).mono ?_
    rw [← HR2.out]
    rintro e2 w2 ⟨rfl, hx2⟩
    go_wp2_with fail
    by_cases hz : r.2 = 0
    · rw [hz]
      refine (must_ok _ _).mono ?_
      have HZ := Lib.hid hz
      clear hz
      rintro e3 w3 ⟨rfl, rfl⟩
      go_wp2_with fail
      go_ret
      exact ⟨.inl ⟨HZ.out, rfl⟩, hx1.trans hx2⟩
    · refine (must_err _ _ (by rw [bne_iff_ne]; exact hz) _).mono ?_
      have HZ := Lib.hid hz
      clear hz
      rintro e3 w3 ⟨rfl, rfl⟩
      go_wp2_with fail
      exact ⟨rfl, .inr ⟨HZ.out, rfl⟩, hx1.trans hx2⟩

set_option maxHeartbeats 1000000 in
theorem subT_any (X b o n cap : Nat) (p q : Int × Int) (w : World)
    (hb : Hid (∀ W, Ext w W → Calls Try.prog 52 #[.pointer (some ⟨X, 0, none⟩), .slice (some ⟨b, o, none⟩) n cap] W fun en w' => Outc2 p q en ∧ Ext W w')) :
    Calls Try.prog 42 #[.pointer (some ⟨X, 0, none⟩), .slice (some ⟨b, o, none⟩) n cap] w fun en w' => Outc (comb p q subF) en ∧ Ext w w' := by
  obtain ⟨r, hr⟩ : ∃ r, comb p q subF = r := ⟨_, rfl⟩
  rw [hr]
  have HR := Lib.hid hr
  clear hr
  go_enter Try.func42, Try.ntmps42
  go_wp2_with fail
  refine (hb.out _ (Ext.refl _)).mono ?_
  rintro e1 w1 ⟨⟨h1, rfl⟩ | ⟨h1, h2, rfl⟩ | ⟨h1, h2, rfl⟩, hx1⟩
  · have H1 := Lib.hid h1
    clear h1
    go_wp2_with fail
    exact ⟨rfl, .inr (by rw [← HR.out, comb_l H1.out]; exact ⟨H1.out, rfl⟩), hx1⟩
  · have H1 := Lib.hid h1
    have H2 := Lib.hid h2
    clear h1 h2
    go_wp2_with fail
    exact ⟨rfl, .inr (by rw [← HR.out, comb_r H1.out H2.out]; exact ⟨H2.out, rfl⟩), hx1⟩
  · have H1 := Lib.hid h1
    have H2 := Lib.hid h2
    have hr : r = subF p.1 q.1 := by rw [← HR.out, comb_ok H1.out H2.out]
    have HR2 := Lib.hid hr
    clear h1 h2 hr HR
    go_wp2_with fail
    refine (sub_any _ _ _).mono ?_
    rw [← HR2.out]
    rintro e2 w2 ⟨rfl, hx2⟩
    go_wp2_with fail
    by_cases hz : r.2 = 0
    · rw [hz]
      refine (must_ok _ _).mono ?_
      have HZ := Lib.hid hz
      clear hz
      rintro e3 w3 ⟨rfl, rfl⟩
      go_wp2_with fail
      go_ret
      exact ⟨.inl ⟨HZ.out, rfl⟩, hx1.trans hx2⟩
    · refine (must_err _ _ (by rw [bne_iff_ne]; exact hz) _).mono ?_
      have HZ := Lib.hid hz
      clear hz
      rintro e3 w3 ⟨rfl, rfl⟩
      go_wp2_with fail
      exact ⟨rfl, .inr ⟨HZ.out, rfl⟩, hx1.trans hx2⟩

set_option maxHeartbeats 1000000 in
theorem mulT_any (X b o n cap : Nat) (p q : Int × Int) (w : World)
    (hb : Hid (∀ W, Ext w W → Calls Try.prog 52 #[.pointer (some ⟨X, 0, none⟩), .slice (some ⟨b, o, none⟩) n cap] W fun en w' => Outc2 p q en ∧ Ext W w')) :
    Calls Try.prog 43 #[.pointer (some ⟨X, 0, none⟩), .slice (some ⟨b, o, none⟩) n cap] w fun en w' => Outc (comb p q mulF) en ∧ Ext w w' := by
  obtain ⟨r, hr⟩ : ∃ r, comb p q mulF = r := ⟨_, rfl⟩
  rw [hr]
  have HR := Lib.hid hr
  clear hr
  go_enter Try.func43, Try.ntmps43
  go_wp2_with fail
  refine (hb.out _ (Ext.refl _)).mono ?_
  rintro e1 w1 ⟨⟨h1, rfl⟩ | ⟨h1, h2, rfl⟩ | ⟨h1, h2, rfl⟩, hx1⟩
  · have H1 := Lib.hid h1
    clear h1
    go_wp2_with fail
    exact ⟨rfl, .inr (by rw [← HR.out, comb_l H1.out]; exact ⟨H1.out, rfl⟩), hx1⟩
  · have H1 := Lib.hid h1
    have H2 := Lib.hid h2
    clear h1 h2
    go_wp2_with fail
    exact ⟨rfl, .inr (by rw [← HR.out, comb_r H1.out H2.out]; exact ⟨H2.out, rfl⟩), hx1⟩
  · have H1 := Lib.hid h1
    have H2 := Lib.hid h2
    have hr : r = mulF p.1 q.1 := by rw [← HR.out, comb_ok H1.out H2.out]
    have HR2 := Lib.hid hr
    clear h1 h2 hr HR
    go_wp2_with fail
    refine (mul_any _ _ _).mono ?_
    rw [← HR2.out]
    rintro e2 w2 ⟨rfl, hx2⟩
    go_wp2_with fail
    by_cases hz : r.2 = 0
    · rw [hz]
      refine (must_ok _ _).mono ?_
      have HZ := Lib.hid hz
      clear hz
      rintro e3 w3 ⟨rfl, rfl⟩
      go_wp2_with fail
      go_ret
      exact ⟨.inl ⟨HZ.out, rfl⟩, hx1.trans hx2⟩
    · refine (must_err _ _ (by rw [bne_iff_ne]; exact hz) _).mono ?_
      have HZ := Lib.hid hz
      clear hz
      rintro e3 w3 ⟨rfl, rfl⟩
      go_wp2_with fail
      exact ⟨rfl, .inr ⟨HZ.out, rfl⟩, hx1.trans hx2⟩

set_option maxHeartbeats 1000000 in
theorem leastT_any (X b o n cap : Nat) (p q : Int × Int) (w : World)
    (hb : Hid (∀ W, Ext w W → Calls Try.prog 52 #[.pointer (some ⟨X, 0, none⟩), .slice (some ⟨b, o, none⟩) n cap] W fun en w' => Outc2 p q en ∧ Ext W w')) :
    Calls Try.prog 44 #[.pointer (some ⟨X, 0, none⟩), .slice (some ⟨b, o, none⟩) n cap] w fun en w' => Outc (comb p q fun a b => (min a b, 0)) en ∧ Ext w w' := by
  obtain ⟨r, hr⟩ : ∃ r, comb p q (fun a b => (min a b, 0)) = r := ⟨_, rfl⟩
  rw [hr]
  have HR := Lib.hid hr
  clear hr
  go_enter Try.func44, Try.ntmps44
  go_wp2_with fail
  refine (hb.out _ (Ext.refl _)).mono ?_
  rintro e1 w1 ⟨⟨h1, rfl⟩ | ⟨h1, h2, rfl⟩ | ⟨h1, h2, rfl⟩, hx1⟩
  · have H1 := Lib.hid h1
    clear h1
    go_wp2_with fail
    exact ⟨rfl, .inr (by rw [← HR.out, comb_l H1.out]; exact ⟨H1.out, rfl⟩), hx1⟩
  · have H1 := Lib.hid h1
    have H2 := Lib.hid h2
    clear h1 h2
    go_wp2_with fail
    exact ⟨rfl, .inr (by rw [← HR.out, comb_r H1.out H2.out]; exact ⟨H2.out, rfl⟩), hx1⟩
  · have H1 := Lib.hid h1
    have H2 := Lib.hid h2
    have hr : r = (min p.1 q.1, 0) := by rw [← HR.out, comb_ok H1.out H2.out]
    have HR2 := Lib.hid hr
    clear h1 h2 hr HR
    go_wp2_with fail
    all_goals go_ret
    all_goals exact ⟨.inl ⟨by rw [HR2.out], by rw [HR2.out]; exact ret_int (by omega)⟩, hx1⟩

set_option maxHeartbeats 1000000 in
theorem greatestT_any (X b o n cap : Nat) (p q : Int × Int) (w : World)
    (hb : Hid (∀ W, Ext w W → Calls Try.prog 52 #[.pointer (some ⟨X, 0, none⟩), .slice (some ⟨b, o, none⟩) n cap] W fun en w' => Outc2 p q en ∧ Ext W w')) :
    Calls Try.prog 45 #[.pointer (some ⟨X, 0, none⟩), .slice (some ⟨b, o, none⟩) n cap] w fun en w' => Outc (comb p q fun a b => (max a b, 0)) en ∧ Ext w w' := by
  obtain ⟨r, hr⟩ : ∃ r, comb p q (fun a b => (max a b, 0)) = r := ⟨_, rfl⟩
  rw [hr]
  have HR := Lib.hid hr
  clear hr
  go_enter Try.func45, Try.ntmps45
  go_wp2_with fail
  refine (hb.out _ (Ext.refl _)).mono ?_
  rintro e1 w1 ⟨⟨h1, rfl⟩ | ⟨h1, h2, rfl⟩ | ⟨h1, h2, rfl⟩, hx1⟩
  · have H1 := Lib.hid h1
    clear h1
    go_wp2_with fail
    exact ⟨rfl, .inr (by rw [← HR.out, comb_l H1.out]; exact ⟨H1.out, rfl⟩), hx1⟩
  · have H1 := Lib.hid h1
    have H2 := Lib.hid h2
    clear h1 h2
    go_wp2_with fail
    exact ⟨rfl, .inr (by rw [← HR.out, comb_r H1.out H2.out]; exact ⟨H2.out, rfl⟩), hx1⟩
  · have H1 := Lib.hid h1
    have H2 := Lib.hid h2
    have hr : r = (max p.1 q.1, 0) := by rw [← HR.out, comb_ok H1.out H2.out]
    have HR2 := Lib.hid hr
    clear h1 h2 hr HR
    go_wp2_with fail
    all_goals go_ret
    all_goals exact ⟨.inl ⟨by rw [HR2.out], by rw [HR2.out]; exact ret_int (by omega)⟩, hx1⟩

set_option maxHeartbeats 1000000 in
theorem divideT_any (X b o n cap : Nat) (p q : Int × Int) (m : Int) (w : World)
    (hb : Hid (∀ W, Ext w W → Calls Try.prog 52 #[.pointer (some ⟨X, 0, none⟩), .slice (some ⟨b, o, none⟩) n cap] W fun en w' => Outc2 p q en ∧ Ext W w')) :
    Calls Try.prog 53 #[.pointer (some ⟨X, 0, none⟩), .slice (some ⟨b, o, none⟩) n cap, .int .i64 m] w fun en w' => Outc (comb p q fun a b => divF a b m) en ∧ Ext w w' := by
  obtain ⟨r, hr⟩ : ∃ r, comb p q (fun a b => divF a b m) = r := ⟨_, rfl⟩
  rw [hr]
  have HR := Lib.hid hr
  clear hr
  go_enter Try.func53, Try.ntmps53
  go_wp2_with fail
  refine (hb.out _ (Ext.refl _)).mono ?_
  rintro e1 w1 ⟨⟨h1, rfl⟩ | ⟨h1, h2, rfl⟩ | ⟨h1, h2, rfl⟩, hx1⟩
  · have H1 := Lib.hid h1
    clear h1
    go_wp2_with fail
    exact ⟨rfl, .inr (by rw [← HR.out, comb_l H1.out]; exact ⟨H1.out, rfl⟩), hx1⟩
  · have H1 := Lib.hid h1
    have H2 := Lib.hid h2
    clear h1 h2
    go_wp2_with fail
    exact ⟨rfl, .inr (by rw [← HR.out, comb_r H1.out H2.out]; exact ⟨H2.out, rfl⟩), hx1⟩
  · have H1 := Lib.hid h1
    have H2 := Lib.hid h2
    have hr : r = divF p.1 q.1 m := by rw [← HR.out, comb_ok H1.out H2.out]
    have HR2 := Lib.hid hr
    clear h1 h2 hr HR
    go_wp2_with fail
    refine (div_any _ _ _ _).mono ?_
    rw [← HR2.out]
    rintro e2 w2 ⟨rfl, hx2⟩
    go_wp2_with fail
    by_cases hz : r.2 = 0
    · rw [hz]
      refine (must_ok _ _).mono ?_
      have HZ := Lib.hid hz
      clear hz
      rintro e3 w3 ⟨rfl, rfl⟩
      go_wp2_with fail
      go_ret
      exact ⟨.inl ⟨HZ.out, rfl⟩, hx1.trans hx2⟩
    · refine (must_err _ _ (by rw [bne_iff_ne]; exact hz) _).mono ?_
      have HZ := Lib.hid hz
      clear hz
      rintro e3 w3 ⟨rfl, rfl⟩
      go_wp2_with fail
      exact ⟨rfl, .inr ⟨HZ.out, rfl⟩, hx1.trans hx2⟩

set_option maxHeartbeats 1000000 in
theorem downT_any (X b o n cap : Nat) (p q : Int × Int) (w : World)
    (hb : Hid (∀ W, Ext w W → Calls Try.prog 52 #[.pointer (some ⟨X, 0, none⟩), .slice (some ⟨b, o, none⟩) n cap] W fun en w' => Outc2 p q en ∧ Ext W w')) :
    Calls Try.prog 46 #[.pointer (some ⟨X, 0, none⟩), .slice (some ⟨b, o, none⟩) n cap] w fun en w' => Outc (comb p q fun a b => divF a b 8) en ∧ Ext w w' := by
  obtain ⟨r, hr⟩ : ∃ r, comb p q (fun a b => divF a b 8) = r := ⟨_, rfl⟩
  have hd := divideT_any X b o n cap p q 8 w hb
  rw [hr] at hd ⊢
  have HD := Lib.hid hd
  clear hr hd
  go_enter Try.func46, Try.ntmps46
  go_wp2_with fail
  refine HD.out.mono ?_
  rintro e1 w1 ⟨⟨h1, rfl⟩ | ⟨h1, rfl⟩, hx1⟩
  · have H1 := Lib.hid h1
    clear h1
    go_wp2_with fail
    go_ret
    exact ⟨.inl ⟨H1.out, rfl⟩, hx1⟩
  · have H1 := Lib.hid h1
    clear h1
    go_wp2_with fail
    exact ⟨rfl, .inr ⟨H1.out, rfl⟩, hx1⟩

set_option maxHeartbeats 1000000 in
theorem upT_any (X b o n cap : Nat) (p q : Int × Int) (w : World)
    (hb : Hid (∀ W, Ext w W → Calls Try.prog 52 #[.pointer (some ⟨X, 0, none⟩), .slice (some ⟨b, o, none⟩) n cap] W fun en w' => Outc2 p q en ∧ Ext W w')) :
    Calls Try.prog 47 #[.pointer (some ⟨X, 0, none⟩), .slice (some ⟨b, o, none⟩) n cap] w fun en w' => Outc (comb p q fun a b => divF a b 9) en ∧ Ext w w' := by
  obtain ⟨r, hr⟩ : ∃ r, comb p q (fun a b => divF a b 9) = r := ⟨_, rfl⟩
  have hd := divideT_any X b o n cap p q 9 w hb
  rw [hr] at hd ⊢
  have HD := Lib.hid hd
  clear hr hd
  go_enter Try.func47, Try.ntmps47
  go_wp2_with fail
  refine HD.out.mono ?_
  rintro e1 w1 ⟨⟨h1, rfl⟩ | ⟨h1, rfl⟩, hx1⟩
  · have H1 := Lib.hid h1
    clear h1
    go_wp2_with fail
    go_ret
    exact ⟨.inl ⟨H1.out, rfl⟩, hx1⟩
  · have H1 := Lib.hid h1
    clear h1
    go_wp2_with fail
    exact ⟨rfl, .inr ⟨H1.out, rfl⟩, hx1⟩

set_option maxHeartbeats 1000000 in
theorem halfT_any (X b o n cap : Nat) (p q : Int × Int) (w : World)
    (hb : Hid (∀ W, Ext w W → Calls Try.prog 52 #[.pointer (some ⟨X, 0, none⟩), .slice (some ⟨b, o, none⟩) n cap] W fun en w' => Outc2 p q en ∧ Ext W w')) :
    Calls Try.prog 48 #[.pointer (some ⟨X, 0, none⟩), .slice (some ⟨b, o, none⟩) n cap] w fun en w' => Outc (comb p q fun a b => divF a b 10) en ∧ Ext w w' := by
  obtain ⟨r, hr⟩ : ∃ r, comb p q (fun a b => divF a b 10) = r := ⟨_, rfl⟩
  have hd := divideT_any X b o n cap p q 10 w hb
  rw [hr] at hd ⊢
  have HD := Lib.hid hd
  clear hr hd
  go_enter Try.func48, Try.ntmps48
  go_wp2_with fail
  refine HD.out.mono ?_
  rintro e1 w1 ⟨⟨h1, rfl⟩ | ⟨h1, rfl⟩, hx1⟩
  · have H1 := Lib.hid h1
    clear h1
    go_wp2_with fail
    go_ret
    exact ⟨.inl ⟨H1.out, rfl⟩, hx1⟩
  · have H1 := Lib.hid h1
    clear h1
    go_wp2_with fail
    exact ⟨rfl, .inr ⟨H1.out, rfl⟩, hx1⟩

set_option maxHeartbeats 1000000 in
theorem chooseT_any (X b o n cap : Nat) (p q p2 p3 : Int × Int) (c2 c3 : List Value) (w : World) (hn : 4 ≤ n) (hl2 : Hid (c2.length = 7)) (hl3 : Hid (c3.length = 7))
    (hr2 : w.rangeAt b (o + 14) c2) (hr3 : w.rangeAt b (o + 21) c3)
    (hb : Hid (∀ W, Ext w W → Calls Try.prog 52 #[.pointer (some ⟨X, 0, none⟩), .slice (some ⟨b, o, none⟩) n cap] W fun en w' => Outc2 p q en ∧ Ext W w'))
    (h2 : Hid (∀ W, Ext w W → Calls Try.prog 31 #[.pointer (some ⟨X, 0, none⟩), .agg c2.toArray] W fun en w' => Outc p2 en ∧ Ext W w'))
    (h3 : Hid (∀ W, Ext w W → Calls Try.prog 31 #[.pointer (some ⟨X, 0, none⟩), .agg c3.toArray] W fun en w' => Outc p3 en ∧ Ext W w')) :
    Calls Try.prog 49 #[.pointer (some ⟨X, 0, none⟩), .slice (some ⟨b, o, none⟩) n cap] w fun en w' =>
      Outc (if p.2 ≠ 0 then (0, p.2) else if q.2 ≠ 0 then (0, q.2) else if p.1 < q.1 then p2 else p3) en ∧ Ext w w' := by
  obtain ⟨r, hr⟩ : ∃ r, (if p.2 ≠ 0 then (0, p.2) else if q.2 ≠ 0 then (0, q.2) else if p.1 < q.1 then p2 else p3) = r := ⟨_, rfl⟩
  rw [hr]
  have HR := Lib.hid hr
  clear hr
  have hn2 : (2 : Int) < (n : Int) := by omega
  have hn3 : (3 : Int) < (n : Int) := by omega
  go_enter Try.func49, Try.ntmps49
  go_wp2_with fail
  refine (hb.out _ (Ext.refl _)).mono ?_
  rintro e1 w1 ⟨⟨h1, rfl⟩ | ⟨h1, h1', rfl⟩ | ⟨h1, h1', rfl⟩, hx1⟩
  · have H1 := Lib.hid h1
    clear h1
    go_wp2_with fail
    exact ⟨rfl, .inr (by rw [← HR.out, if_pos H1.out]; exact ⟨H1.out, rfl⟩), hx1⟩
  · have H1 := Lib.hid h1
    have H2 := Lib.hid h1'
    clear h1 h1'
    go_wp2_with fail
    exact ⟨rfl, .inr (by rw [← HR.out, if_neg (by simpa using H1.out), if_pos H2.out]; exact ⟨H2.out, rfl⟩), hx1⟩
  · have hr : r = if p.1 < q.1 then p2 else p3 := by rw [← HR.out, if_neg (by simpa using h1), if_neg (by simpa using h1')]
    replace hr2 := hx1.range hr2
    replace hr3 := hx1.range hr3
    obtain ⟨p1, pe⟩ := p
    obtain ⟨q1, qe⟩ := q
    by_cases hlt : p1 < q1
    · rw [if_pos hlt] at hr
      subst hr
      clear h1 h1' HR
      go_wp2_with (refine wpList_load_mid rfl 26 _ rfl b (o + 14) rfl c2 _ hr2 Try.underlying26 rfl (by rw [hl2.out]; exact info_expr) ?_)
      refine (h2.out _ hx1).mono ?_
      rintro e2 w2 ⟨⟨hz, rfl⟩ | ⟨hz, rfl⟩, hx2⟩
      · have HZ := Lib.hid hz
        clear hz
        go_wp2_with fail
        go_ret
        exact ⟨.inl ⟨HZ.out, rfl⟩, hx1.trans hx2⟩
      · have HZ := Lib.hid hz
        clear hz
        go_wp2_with fail
        exact ⟨rfl, .inr ⟨HZ.out, rfl⟩, hx1.trans hx2⟩
    · rw [if_neg hlt] at hr
      subst hr
      clear h1 h1' HR
      go_wp2_with (refine wpList_load_mid rfl 26 _ rfl b (o + 21) rfl c3 _ hr3 Try.underlying26 rfl (by rw [hl3.out]; exact info_expr) ?_)
      refine (h3.out _ hx1).mono ?_
      rintro e2 w2 ⟨⟨hz, rfl⟩ | ⟨hz, rfl⟩, hx2⟩
      · have HZ := Lib.hid hz
        clear hz
        go_wp2_with fail
        go_ret
        exact ⟨.inl ⟨HZ.out, rfl⟩, hx1.trans hx2⟩
      · have HZ := Lib.hid hz
        clear hz
        go_wp2_with fail
        exact ⟨rfl, .inr ⟨HZ.out, rfl⟩, hx1.trans hx2⟩
end Go.Proofs.Ytophdbbbojnobaa
