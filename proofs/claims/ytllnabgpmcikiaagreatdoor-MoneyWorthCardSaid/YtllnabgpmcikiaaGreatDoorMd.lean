/- Merged texts: MnE. -/
import Derived.Test.YtllnabgpmcikiaaGreatDoorMc
/- Chapter 7: depreciation. -/
namespace Go.Proofs.YtllnabgpmcikiaaGreatDoor
open Go
set_option linter.unusedVariables false
set_option linter.unusedSimpArgs false
noncomputable def Sdiv64 : Sum thy := sumPY (dL3 dU dU dU) (fun x => (0 ≤ x.1 ∧ x.1 < x.2.2.1) ∧ (0 ≤ x.2.1 ∧ x.2.1 < 18446744073709551616) ∧ x.2.2.1 < 18446744073709551616)
  (fun x => ((((x.1.toNat * 18446744073709551616 + x.2.1.toNat) / x.2.2.1.toNat : Nat) : Int), (((x.1.toNat * 18446744073709551616 + x.2.1.toNat) % x.2.2.1.toNat : Nat) : Int))) pairU
noncomputable def F8 : Fns thy := addS F7 43 Sdiv64
theorem F8_ok : FnsOk E F8 := addS_ok F7_ok (sumPY_ok E_ok (good_of (f := 43) rfl) fun x h => by
  obtain ⟨a, b, c, _⟩ := x
  obtain ⟨⟨h1, h2⟩, ⟨h3, h4⟩, h5⟩ := h
  dsimp only at h1 h2 h3 h4 h5
  obtain ⟨a, rfl⟩ := Int.eq_ofNat_of_zero_le h1
  obtain ⟨b, rfl⟩ := Int.eq_ofNat_of_zero_le h3
  obtain ⟨c, rfl⟩ := Int.eq_ofNat_of_zero_le (show 0 ≤ c by omega)
  exact div64_pure a b c (by omega) (by omega) (by omega))
--@cond worth | 17 | F8 | 400 | (w s t l f : Int) | [.int false .i64 w, .int false .i64 s, .int false .i64 t, .int false .i64 l, .int false .i64 f] | (p : Int × Int) | pairV p
theorem cond_worth (w s t l f : Int) (p : Int × Int) : callF E F8 (vc E F8 400) 17 [.int false .i64 w, .int false .i64 s, .int false .i64 t, .int false .i64 l, .int false .i64 f] hp0 0 (fun r => ret E (patch hp0 0 r) r.v (pairV p)) = (
  (decide (w < (0 : Int)) = true → (0 : Int) = Prod.fst p ∧ (1 : Int) = Prod.snd p ∧ True) ∧ (decide (w < (0 : Int)) = false → ∃ (Q : Bool → Prop), ((decide (w < (-9007199254740992 :
  Int)) = true → Q true) ∧ (decide (w < (-9007199254740992 : Int)) = false → (decide (w > (9007199254740992 : Int)) = true → Q true) ∧ (decide (w > (9007199254740992 : Int)) = false
  → Q false))) ∧ (Q true → (0 : Int) = Prod.fst p ∧ (1 : Int) = Prod.snd p ∧ True) ∧ (Q false → (decide (mm2 false s t < (0 : Int)) = true → (0 : Int) = Prod.fst p ∧ (1 : Int) =
  Prod.snd p ∧ True) ∧ (decide (mm2 false s t < (0 : Int)) = false → (decide (mm2 true (mm2 true s t) l > (1073741824 : Int)) = true → (0 : Int) = Prod.fst p ∧ (1 : Int) = Prod.snd p
  ∧ True) ∧ (decide (mm2 true (mm2 true s t) l > (1073741824 : Int)) = false → (decide (l < (1 : Int)) = true → (0 : Int) = Prod.fst p ∧ (1 : Int) = Prod.snd p ∧ True) ∧ (decide (l <
  (1 : Int)) = false → (decide (f < (0 : Int)) = true → (0 : Int) = Prod.fst p ∧ (1 : Int) = Prod.snd p ∧ True) ∧ (decide (f < (0 : Int)) = false → (decide (f > (100 : Int)) = true →
  (0 : Int) = Prod.fst p ∧ (1 : Int) = Prod.snd p ∧ True) ∧ (decide (f > (100 : Int)) = false → (decide (wr IntKind.i64 (t - s) ≤ (0 : Int)) = true → w = Prod.fst p ∧ (0 : Int) =
  Prod.snd p ∧ True) ∧ (decide (wr IntKind.i64 (t - s) ≤ (0 : Int)) = false → (decide (wr IntKind.i64 (t - s) ≥ l) = true → wr IntKind.i64 (Int.tdiv (wr IntKind.i64 (wr IntKind.i64
  (w * f) + (99 : Int))) (100 : Int)) = Prod.fst p ∧ (0 : Int) = Prod.snd p ∧ True) ∧ (decide (wr IntKind.i64 (t - s) ≥ l) = false → (((0 : Int) ≤ wr IntKind.u64 w ∧ wr IntKind.u64 w
  + (1 : Int) ≤ (18446744073709551616 : Int)) ∧ (0 : Int) ≤ wr IntKind.u64 (wr IntKind.i64 (t - s)) ∧ wr IntKind.u64 (wr IntKind.i64 (t - s)) + (1 : Int) ≤ (18446744073709551616 :
  Int)) ∧ ∀ (y : Int × Int), y = ((↑(Int.toNat (wr IntKind.u64 w) * Int.toNat (wr IntKind.u64 (wr IntKind.i64 (t - s))) / (18446744073709551616 : Nat)) : Int), (↑(Int.toNat (wr
  IntKind.u64 w) * Int.toNat (wr IntKind.u64 (wr IntKind.i64 (t - s))) % (18446744073709551616 : Nat)) : Int)) → (((0 : Int) ≤ Prod.fst y ∧ Prod.fst y + (1 : Int) ≤ wr IntKind.u64 l)
  ∧ ((0 : Int) ≤ Prod.snd y ∧ Prod.snd y + (1 : Int) ≤ (18446744073709551616 : Int)) ∧ wr IntKind.u64 l + (1 : Int) ≤ (18446744073709551616 : Int)) ∧ ∀ (y_1 : Int × Int), y_1 =
  ((↑((Int.toNat (Prod.fst y) * (18446744073709551616 : Nat) + Int.toNat (Prod.snd y)) / Int.toNat (wr IntKind.u64 l)) : Int), (↑((Int.toNat (Prod.fst y) * (18446744073709551616 :
  Nat) + Int.toNat (Prod.snd y)) % Int.toNat (wr IntKind.u64 l)) : Int)) → mm2 true (wr IntKind.i64 (Int.tdiv (wr IntKind.i64 (wr IntKind.i64 (w * f) + (99 : Int))) (100 : Int))) (wr
  IntKind.i64 (w - wr IntKind.i64 (Prod.fst y_1))) = Prod.fst p ∧ (0 : Int) = Prod.snd p ∧ True)))))))))
  ) := by kernel_rfl
--@end
def WorthOk (w s t l f : Int) : Prop := 0 ≤ w ∧ w ≤ 9007199254740992 ∧ 0 ≤ s ∧ s ≤ 1073741824 ∧ 0 ≤ t ∧ t ≤ 1073741824 ∧ 1 ≤ l ∧ l ≤ 1073741824 ∧ 0 ≤ f ∧ f ≤ 100
instance (w s t l f : Int) : Decidable (WorthOk w s t l f) := by unfold WorthOk; infer_instance
def leastF (w f : Int) : Int := (w * f + 99) / 100
def worthF (w s t l f : Int) : Int × Int := if WorthOk w s t l f then (if t ≤ s then (w, 0) else if l ≤ t - s then (leastF w f, 0) else (max (leastF w f) (w - w * (t - s) / l), 0)) else (0, 1)
theorem prod_bound {a b A B : Int} (h0 : 0 ≤ a) (h1 : a ≤ A) (h2 : 0 ≤ b) (h3 : b ≤ B) : 0 ≤ a * b ∧ a * b ≤ A * B :=
  ⟨Int.mul_nonneg h0 h2, Int.le_trans (Int.mul_le_mul_of_nonneg_right h1 h2) (Int.mul_le_mul_of_nonneg_left h3 (by omega))⟩
theorem least_wr {w f : Int} (h0 : 0 ≤ w) (h1 : w ≤ 9007199254740992) (h2 : 0 ≤ f) (h3 : f ≤ 100) : wr .i64 (Int.tdiv (wr .i64 (wr .i64 (w * f) + 99)) 100) = leastF w f := by
  have := prod_bound h0 h1 h2 h3
  rw [wr64 (n := w * f) (by omega) (by omega), wr64 (n := w * f + 99) (by omega) (by omega), Int.tdiv_eq_ediv_of_nonneg (by omega), wr64 (by omega) (by omega)]
  rfl
theorem quo_mul {w a l : Int} (h0 : 0 ≤ w) (ha : 0 ≤ a) (hl : 0 < l) (hal : a ≤ l) : 0 ≤ w * a / l ∧ w * a / l ≤ w := by
  refine ⟨Int.ediv_nonneg (Int.mul_nonneg h0 ha) (by omega), ?_⟩
  have : w * a ≤ w * l := Int.mul_le_mul_of_nonneg_left hal h0
  exact Int.ediv_le_of_le_mul hl this
theorem worth_pure (w s t l f : Int) : PureC E 17 [.int false .i64 w, .int false .i64 s, .int false .i64 t, .int false .i64 l, .int false .i64 f] (pairV (worthF w s t l f)) := by
  refine pure_of_call E_ok (callOk_of E_ok F8_ok 400) ?_
  rw [cond_worth]
  simp only [mm2_max, mm2_min, decide_eq_true_eq, decide_eq_false_iff_not]
  have bad : ¬ WorthOk w s t l f → (0 : Int) = (worthF w s t l f).1 ∧ (1 : Int) = (worthF w s t l f).2 ∧ True := fun h => by unfold worthF; rw [if_neg h]; exact ⟨rfl, rfl, trivial⟩
  refine ⟨fun h => bad ?_, fun h0 => ⟨fun q => q = decide (9007199254740992 < w), ?_, fun hq => bad ?_, fun hq => ⟨fun h => bad ?_, fun h1 => ⟨fun h => bad ?_, fun h2 => ⟨fun h => bad ?_, fun h3 => ⟨fun h => bad ?_, fun h4 => ⟨fun h => bad ?_, fun h5 => ?_⟩⟩⟩⟩⟩⟩⟩
  · unfold WorthOk; omega
  · refine And.intro (fun h => by omega) (fun h => And.intro (fun h => (decide_eq_true (by omega)).symm) (fun h => (decide_eq_false (by omega)).symm))
  · have := of_decide_eq_true hq.symm
    unfold WorthOk; omega
  · unfold WorthOk; omega
  · unfold WorthOk; omega
  · unfold WorthOk; omega
  · unfold WorthOk; omega
  · unfold WorthOk; omega
  have hw := of_decide_eq_false hq.symm
  have ok : WorthOk w s t l f := by unfold WorthOk; omega
  obtain ⟨k1, k2, k3, k4, k5, k6, k7, k8, k9, k10⟩ := ok
  have ok : WorthOk w s t l f := by unfold WorthOk; omega
  have e : wr .i64 (t - s) = t - s := wr64 (by omega) (by omega)
  rw [e, least_wr k1 k2 k9 k10]
  unfold worthF
  rw [if_pos ok]
  refine ⟨fun h => ?_, fun h6 => ⟨fun h => ?_, fun h7 => ?_⟩⟩
  · rw [if_pos (by omega)]; exact ⟨rfl, rfl, trivial⟩
  · rw [if_neg (by omega), if_pos (by omega)]; exact ⟨rfl, rfl, trivial⟩
  rw [if_neg (by omega), if_neg (by omega)]
  have ew : wr .u64 w = w := by rw [wu64]; omega
  have et : wr .u64 (t - s) = t - s := by rw [wu64]; omega
  have el : wr .u64 l = l := by rw [wu64]; omega
  rw [ew, et, el]
  obtain ⟨W, rfl⟩ := Int.eq_ofNat_of_zero_le k1
  obtain ⟨A, hA⟩ := Int.eq_ofNat_of_zero_le (show 0 ≤ t - s by omega)
  obtain ⟨L, rfl⟩ := Int.eq_ofNat_of_zero_le (show 0 ≤ l by omega)
  rw [hA]
  simp only [Int.toNat_natCast]
  refine ⟨⟨⟨by omega, by omega⟩, by omega, by omega⟩, fun y hy => ?_⟩
  subst hy
  simp only [Int.toNat_natCast]
  have hp := Nat.mod_add_div (W * A) 18446744073709551616
  have hml : W * A % 18446744073709551616 < 18446744073709551616 := Nat.mod_lt _ (by decide)
  have hb : W * A ≤ 9007199254740992 * 1073741824 := Nat.mul_le_mul (by omega) (by omega)
  have hWA : W * A ≤ W * L := Nat.mul_le_mul_left _ (by omega)
  have hWL : W * A ≤ 9007199254740992 * L := Nat.le_trans hWA (Nat.mul_le_mul_right _ (by omega))
  refine ⟨⟨⟨by omega, by omega⟩, ⟨by omega, by omega⟩, by omega⟩, fun y hy => ?_⟩
  subst hy
  have e2 : W * A / 18446744073709551616 * 18446744073709551616 + W * A % 18446744073709551616 = W * A := by omega
  dsimp only
  rw [e2]
  have hq := quo_mul (w := (W : Int)) (a := (A : Int)) (l := (L : Int)) (by omega) (by omega) (by omega) (by omega)
  have e3 : ((W * A / L : Nat) : Int) = (W : Int) * (A : Int) / (L : Int) := by simp
  rw [e3]
  have e4 : wr .i64 ((W : Int) * (A : Int) / (L : Int)) = (W : Int) * (A : Int) / (L : Int) := wr64 (by omega) (by omega)
  rw [e4, wr64 (n := (W : Int) - _) (by omega) (by omega)]
  refine ⟨?_, ?_, trivial⟩ <;> first | rfl | trivial
noncomputable def Sworth : Sum thy := sumPY (.cons dI (.cons dI (dL3 dI dI dI))) (fun _ => True) (fun x => worthF x.1 x.2.1 x.2.2.1 x.2.2.2.1 x.2.2.2.2.1) pairV
noncomputable def F9 : Fns thy := addS F8 17 Sworth
theorem F9_ok : FnsOk E F9 := addS_ok F8_ok (sumPY_ok E_ok (good_of (f := 17) rfl) fun x _ => worth_pure x.1 x.2.1 x.2.2.1 x.2.2.2.1 x.2.2.2.2.1)
--@cond wlaw | 9 | F9 | 400 | (w s t u l f : Int) | [.int false .i64 w, .int false .i64 s, .int false .i64 t, .int false .i64 u, .int false .i64 l, .int false .i64 f] | (b : Bool) | .bool false b
theorem cond_wlaw (w s t u l f : Int) (b : Bool) : callF E F9 (vc E F9 400) 9 [.int false .i64 w, .int false .i64 s, .int false .i64 t, .int false .i64 u, .int false .i64 l, .int false .i64 f] hp0 0 (fun r => ret E (patch hp0 0 r) r.v (.bool false b)) = (
  True ∧ ((!true) = true → false = b) ∧ ((!true) = false → True ∧ ∀ (y : Int × Int), y = worthF w s t l f → True ∧ ∀ (y_1 : Int × Int), y_1 = worthF w s u l f → ∃ (Q : Bool → Prop),
  (((Prod.snd y != (0 : Int)) = true → Q true) ∧ ((Prod.snd y != (0 : Int)) = false → ((Prod.snd y_1 != (0 : Int)) = true → Q true) ∧ ((Prod.snd y_1 != (0 : Int)) = false → Q
  false))) ∧ (Q true → true = b) ∧ (Q false → ∃ (Q : Bool → Prop), ((decide (w < (0 : Int)) = true → Q true) ∧ (decide (w < (0 : Int)) = false → (decide (w > (9007199254740992 :
  Int)) = true → Q true) ∧ (decide (w > (9007199254740992 : Int)) = false → (decide (s < (0 : Int)) = true → Q true) ∧ (decide (s < (0 : Int)) = false → (decide (l < (1 : Int)) =
  true → Q true) ∧ (decide (l < (1 : Int)) = false → (decide (f < (0 : Int)) = true → Q true) ∧ (decide (f < (0 : Int)) = false → (decide (f > (100 : Int)) = true → Q true) ∧ (decide
  (f > (100 : Int)) = false → (decide (t < (0 : Int)) = true → Q true) ∧ (decide (t < (0 : Int)) = false → (decide (t > (1073741824 : Int)) = true → Q true) ∧ (decide (t >
  (1073741824 : Int)) = false → (decide (u < (0 : Int)) = true → Q true) ∧ (decide (u < (0 : Int)) = false → (decide (u > (1073741824 : Int)) = true → Q true) ∧ (decide (u >
  (1073741824 : Int)) = false → (decide (s > (1073741824 : Int)) = true → Q true) ∧ (decide (s > (1073741824 : Int)) = false → Q false)))))))))))) ∧ (Q true → false = b) ∧ (Q false →
  True ∧ (decide (w > (1099511627776 : Int)) = true → ∃ (Q : Bool → Prop), ((decide (Prod.fst y < wr IntKind.i64 (Int.tdiv (wr IntKind.i64 (wr IntKind.i64 (w * f) + (99 : Int))) (100
  : Int))) = true → Q true) ∧ (decide (Prod.fst y < wr IntKind.i64 (Int.tdiv (wr IntKind.i64 (wr IntKind.i64 (w * f) + (99 : Int))) (100 : Int))) = false → (decide (Prod.fst y > w) =
  true → Q true) ∧ (decide (Prod.fst y > w) = false → (decide (t ≤ u) = true → (decide (Prod.fst y < Prod.fst y_1) = true → Q true) ∧ (decide (Prod.fst y < Prod.fst y_1) = false →
  (decide (t ≥ u) = true → (decide (Prod.fst y > Prod.fst y_1) = true → Q true) ∧ (decide (Prod.fst y > Prod.fst y_1) = false → Q false)) ∧ (decide (t ≥ u) = false → Q false))) ∧
  (decide (t ≤ u) = false → (decide (t ≥ u) = true → (decide (Prod.fst y > Prod.fst y_1) = true → Q true) ∧ (decide (Prod.fst y > Prod.fst y_1) = false → Q false)) ∧ (decide (t ≥ u)
  = false → Q false))))) ∧ (Q true → false = b) ∧ (Q false → ∃ (Q : Bool → Prop), ((decide (t ≤ s) = true → ((Prod.fst y != w) = true → Q true) ∧ ((Prod.fst y != w) = false → Q
  false)) ∧ (decide (t ≤ s) = false → Q false)) ∧ (Q true → false = b) ∧ (Q false → (decide (wr IntKind.i64 (t - s) < l) = true → true = b) ∧ (decide (wr IntKind.i64 (t - s) < l) =
  false → (decide (t ≤ s) = true → true = b) ∧ (decide (t ≤ s) = false → ((Prod.fst y == wr IntKind.i64 (Int.tdiv (wr IntKind.i64 (wr IntKind.i64 (w * f) + (99 : Int))) (100 : Int)))
  = true → true = b) ∧ ((Prod.fst y == wr IntKind.i64 (Int.tdiv (wr IntKind.i64 (wr IntKind.i64 (w * f) + (99 : Int))) (100 : Int))) = false → false = b)))))) ∧ (decide (w >
  (1099511627776 : Int)) = false → ∃ (Q : Bool → Prop), (((Prod.snd (divF (wr IntKind.i64 (w * f)) (100 : Int) (9 : Int)) != (0 : Int)) = true → Q true) ∧ ((Prod.snd (divF (wr
  IntKind.i64 (w * f)) (100 : Int) (9 : Int)) != (0 : Int)) = false → (decide (Prod.fst y < Prod.fst (divF (wr IntKind.i64 (w * f)) (100 : Int) (9 : Int))) = true → Q true) ∧ (decide
  (Prod.fst y < Prod.fst (divF (wr IntKind.i64 (w * f)) (100 : Int) (9 : Int))) = false → (decide (Prod.fst y > w) = true → Q true) ∧ (decide (Prod.fst y > w) = false → (decide (t ≤
  u) = true → (decide (Prod.fst y < Prod.fst y_1) = true → Q true) ∧ (decide (Prod.fst y < Prod.fst y_1) = false → (decide (t ≥ u) = true → (decide (Prod.fst y > Prod.fst y_1) = true
  → Q true) ∧ (decide (Prod.fst y > Prod.fst y_1) = false → Q false)) ∧ (decide (t ≥ u) = false → Q false))) ∧ (decide (t ≤ u) = false → (decide (t ≥ u) = true → (decide (Prod.fst y
  > Prod.fst y_1) = true → Q true) ∧ (decide (Prod.fst y > Prod.fst y_1) = false → Q false)) ∧ (decide (t ≥ u) = false → Q false)))))) ∧ (Q true → false = b) ∧ (Q false → ∃ (Q : Bool
  → Prop), ((decide (t ≤ s) = true → ((Prod.fst y != w) = true → Q true) ∧ ((Prod.fst y != w) = false → Q false)) ∧ (decide (t ≤ s) = false → Q false)) ∧ (Q true → false = b) ∧ (Q
  false → (decide (wr IntKind.i64 (t - s) < l) = true → true = b) ∧ (decide (wr IntKind.i64 (t - s) < l) = false → (decide (t ≤ s) = true → true = b) ∧ (decide (t ≤ s) = false →
  ((Prod.fst y == Prod.fst (divF (wr IntKind.i64 (w * f)) (100 : Int) (9 : Int))) = true → true = b) ∧ ((Prod.fst y == Prod.fst (divF (wr IntKind.i64 (w * f)) (100 : Int) (9 : Int)))
  = false → false = b)))))))))
  ) := by kernel_rfl
--@end
theorem worthF_ok {w s t l f : Int} (h : (worthF w s t l f).2 = 0) : WorthOk w s t l f := by
  unfold worthF at h
  split at h
  · assumption
  · cases h
theorem least_le {w f : Int} (h0 : 0 ≤ w) (h2 : 0 ≤ f) (h3 : f ≤ 100) : 0 ≤ leastF w f ∧ leastF w f ≤ w := by
  unfold leastF
  have := prod_bound h0 (Int.le_refl w) h2 h3
  omega
theorem worthF_cases {w s t l f : Int} (ok : WorthOk w s t l f) : leastF w f ≤ (worthF w s t l f).1 ∧ (worthF w s t l f).1 ≤ w ∧ (t ≤ s → (worthF w s t l f).1 = w) ∧ (s < t → l ≤ t - s → (worthF w s t l f).1 = leastF w f) ∧ (s < t → t - s < l → (worthF w s t l f).1 = max (leastF w f) (w - w * (t - s) / l)) := by
  have ok' := ok
  obtain ⟨k1, k2, k3, k4, k5, k6, k7, k8, k9, k10⟩ := ok'
  have hl := least_le k1 k9 k10
  unfold worthF
  rw [if_pos ok]
  split
  · exact ⟨hl.2, Int.le_refl _, fun _ => rfl, fun h => by omega, fun h => by omega⟩
  · split
    · exact ⟨Int.le_refl _, hl.2, fun h => by omega, fun _ _ => rfl, fun _ h => by omega⟩
    · have hq := quo_mul (w := w) (a := t - s) (l := l) k1 (by omega) (by omega) (by omega)
      refine ⟨?_, ?_, fun h => by omega, fun _ h => by omega, fun _ _ => rfl⟩
      · dsimp only; omega
      · dsimp only; omega
theorem worthF_mono {w s t u l f : Int} (ok : WorthOk w s t l f) (ok' : WorthOk w s u l f) (h : t ≤ u) : (worthF w s u l f).1 ≤ (worthF w s t l f).1 := by
  obtain ⟨a1, a2, a3, a4, a5⟩ := worthF_cases ok
  obtain ⟨b1, b2, b3, b4, b5⟩ := worthF_cases ok'
  obtain ⟨k1, k2, k3, k4, k5, k6, k7, k8, k9, k10⟩ := ok
  by_cases h1 : t ≤ s
  · rw [a3 h1]; exact b2
  · by_cases h2 : l ≤ u - s
    · rw [b4 (by omega) h2]; exact a1
    · rw [b5 (by omega) (by omega), a5 (by omega) (by omega)]
      have : w * (t - s) / l ≤ w * (u - s) / l := Int.ediv_le_ediv (by omega) (Int.mul_le_mul_of_nonneg_left (by omega) k1)
      omega
theorem div_least {w f : Int} (h0 : 0 ≤ w) (h1 : w ≤ 1099511627776) (h2 : 0 ≤ f) (h3 : f ≤ 100) : divF (wr .i64 (w * f)) 100 9 = (leastF w f, 0) := by
  have hb := prod_bound h0 h1 h2 h3
  rw [wr64 (by omega) (by omega), (divF_in (x := w * f) (y := 100) (inR_iff.2 (by omega)) (by decide) (by decide)).2.1]
  unfold leastF
  simp only [Prod.mk.injEq, and_true]
  omega
set_option maxHeartbeats 1000000 in
theorem wlaw_pure (w s t u l f : Int) : PureC E 9 [.int false .i64 w, .int false .i64 s, .int false .i64 t, .int false .i64 u, .int false .i64 l, .int false .i64 f] (.bool false true) := by
  refine pure_of_call E_ok (callOk_of E_ok F9_ok 400) ?_
  rw [cond_wlaw]
  refine ⟨trivial, by simp, fun _ => ⟨trivial, fun y hy => ⟨trivial, fun y1 hy1 => ?_⟩⟩⟩
  refine ⟨fun b => b = false → y.2 = 0 ∧ y1.2 = 0, ?_, fun _ => rfl, fun hq => ?_⟩
  · refine And.intro (fun _ h => by cases h) (fun h => And.intro (fun _ h' => by cases h') (fun h' _ => ?_))
    simpa using And.intro h h'
  obtain ⟨z, z1⟩ := hq rfl
  rw [hy] at z
  rw [hy1] at z1
  have ok := worthF_ok z
  have ok1 := worthF_ok z1
  obtain ⟨a1, a2, a3, a4, _⟩ := worthF_cases ok
  have m1 := worthF_mono ok ok1
  have m2 := worthF_mono ok1 ok
  rw [← hy] at a1 a2 a3 a4 m1 m2
  rw [← hy1] at m1 m2
  obtain ⟨k1, k2, k3, k4, k5, k6, k7, k8, k9, k10⟩ := ok
  obtain ⟨_, _, _, _, k11, k12, _⟩ := ok1
  have e1 : wr .i64 (t - s) = t - s := wr64 (by omega) (by omega)
  rw [least_wr k1 k2 k9 k10, e1]
  clear e1
  refine ⟨fun b => b = false, ?_, fun h => by simp at h, fun _ => ⟨trivial, fun hw => ?_, fun hw => ?_⟩⟩
  · repeat' (first | (refine And.intro ?_ ?_) | (intro h))
    all_goals (simp only [decide_eq_true_eq, decide_eq_false_iff_not] at *)
    all_goals first | rfl | omega
  · generalize y.1 = a at *
    generalize y1.1 = b at *
    generalize leastF w f = least at *
    by_cases htu : t ≤ u <;> by_cases hut : t ≥ u <;> simp only [htu, hut, decide_true, decide_false, Bool.true_eq_false, Bool.false_eq_true, false_implies, true_implies, true_and, and_true]
    repeat' (first | exact JR_leaf _ | apply JR_ite | apply JR_some | apply JR_and | apply join_e | (refine And.intro ?_ ?_) | (intro h))
    all_goals (try simp only [bif_true, bif_false, bif_nt, bif_tf, bif_ft, beq_iff_eq, bne_iff_ne, beq_eq_false_iff_ne, bne_eq_false_iff_eq, decide_eq_true_eq, decide_eq_false_iff_not, Bool.or_eq_true, Bool.or_eq_false_iff, Bool.not_eq_true', Bool.not_eq_false', Bool.and_eq_true, Bool.and_true, Bool.true_and, Bool.and_eq_false_iff, beq_self_eq_true, mm2_max, mm2_min, ne_eq, and_true, true_and, Bool.true_eq_false, Bool.false_eq_true, false_or, or_false, true_implies, imp_self, Int.ofNat_eq_natCast, not_true_eq_false, not_false_eq_true, Decidable.not_not] at *)
    all_goals first | trivial | omega | skip
    all_goals omega
  · rw [div_least k1 (by simpa using hw) k9 k10]
    dsimp only
    generalize y.1 = a at *
    generalize y1.1 = b at *
    generalize leastF w f = least at *
    by_cases htu : t ≤ u <;> by_cases hut : t ≥ u <;> simp only [htu, hut, decide_true, decide_false, Bool.true_eq_false, Bool.false_eq_true, false_implies, true_implies, true_and, and_true]
    repeat' (first | exact JR_leaf _ | apply JR_ite | apply JR_some | apply JR_and | apply join_e | (refine And.intro ?_ ?_) | (intro h))
    all_goals (try simp only [bif_true, bif_false, bif_nt, bif_tf, bif_ft, beq_iff_eq, bne_iff_ne, beq_eq_false_iff_ne, bne_eq_false_iff_eq, decide_eq_true_eq, decide_eq_false_iff_not, Bool.or_eq_true, Bool.or_eq_false_iff, Bool.not_eq_true', Bool.not_eq_false', Bool.and_eq_true, Bool.and_true, Bool.true_and, Bool.and_eq_false_iff, beq_self_eq_true, mm2_max, mm2_min, ne_eq, and_true, true_and, Bool.true_eq_false, Bool.false_eq_true, false_or, or_false, true_implies, imp_self, Int.ofNat_eq_natCast, not_true_eq_false, not_false_eq_true, Decidable.not_not] at *)
    all_goals first | trivial | omega | skip
    all_goals omega
end Go.Proofs.YtllnabgpmcikiaaGreatDoor
