/- Chapter 21: runs of the machine, shown once for every heap. -/
import Derived.Test.YtcaomfbcchemnaaDoorTvI
namespace Go.Proofs.YtcaomfbcchemnaaDoor
open Go
set_option linter.unusedVariables false
set_option linter.unusedSimpArgs false
theorem good_can {c : List Ins} {D : List Int} {s : St} (hc : Safe c D) (h : Good c D s) (hf : s.fuel ≤ 32768) : CanAdv c s 0 :=
  ⟨hc.short, h.pc, h.lt, fun x hx => hc.formed _ _ hx, h.fuel, by omega, Int.le_refl _, by omega, h.small hc⟩
theorem start_pure (f : Int) : PureC E 13 [.int false .i64 f] (.tup [stV (startF f).1, .int false .i64 (startF f).2]) := by
  refine pure_of_call E_ok (callOk_of E_ok F6_ok 400) ?_
  rw [cond_start]
  simp only [bif_true, bif_false, bif_nt, bif_tf, bif_ft, beq_iff_eq, bne_iff_ne, beq_eq_false_iff_ne, bne_eq_false_iff_eq, decide_eq_true_eq, decide_eq_false_iff_not, Bool.or_eq_true, Bool.or_eq_false_iff, Bool.not_eq_true', Bool.not_eq_false', Bool.and_eq_true, Bool.and_true, Bool.true_and, Bool.and_eq_false_iff, beq_self_eq_true, mm2_max, mm2_min, ne_eq, and_true, true_and, Bool.true_eq_false, Bool.false_eq_true, false_or, or_false, true_implies, Int.ofNat_eq_natCast, not_true_eq_false, not_false_eq_true, Decidable.not_not, gt_iff_lt, ge_iff_le]
  refine ⟨fun b => (b = true ↔ (f < 0 ∨ 32768 < f)), ⟨fun h => by simp [h], fun h => ⟨fun h' => by simp [h'], fun h' => by simp; omega⟩⟩, fun hQ => ?_, fun hQ => ?_⟩
  · have hQ := hQ.1 rfl
    unfold startF; rw [if_pos hQ]; simp [St.zero]
  · have hQ : ¬ (f < 0 ∨ 32768 < f) := fun h => absurd (hQ.2 h) (by simp)
    unfold startF; rw [if_neg hQ]; simp [St.start]
theorem rstart_pure (f : Int) : PureC E 14 [.int false .i64 f] (.tup [stV (startF f).1, .int false .i64 (startF f).2]) := by
  refine pure_of_call E_ok (callOk_of E_ok F6_ok 400) ?_
  rw [cond_rstart]
  simp only [bif_true, bif_false, bif_nt, bif_tf, bif_ft, beq_iff_eq, bne_iff_ne, beq_eq_false_iff_ne, bne_eq_false_iff_eq, decide_eq_true_eq, decide_eq_false_iff_not, Bool.or_eq_true, Bool.or_eq_false_iff, Bool.not_eq_true', Bool.not_eq_false', Bool.and_eq_true, Bool.and_true, Bool.true_and, Bool.and_eq_false_iff, beq_self_eq_true, mm2_max, mm2_min, ne_eq, and_true, true_and, Bool.true_eq_false, Bool.false_eq_true, false_or, or_false, true_implies, Int.ofNat_eq_natCast, not_true_eq_false, not_false_eq_true, Decidable.not_not, gt_iff_lt, ge_iff_le]
  refine ⟨fun b => (b = true ↔ (f < 0 ∨ 32768 < f)), ⟨fun h => by simp [h], fun h => ⟨fun h' => by simp [h'], fun h' => by simp; omega⟩⟩, fun hQ => ?_, fun hQ => ?_⟩
  · have hQ := hQ.1 rfl
    unfold startF; rw [if_pos hQ]; simp [St.zero]
  · have hQ : ¬ (f < 0 ∨ 32768 < f) := fun h => absurd (hQ.2 h) (by simp)
    unfold startF; rw [if_neg hQ]; simp [St.start]
theorem run_pure (c : List Ins) (v : Env) (f : Int) : PureC E 11 [.psl .ins c false, envV v, .int false .i64 f] (.tup [stV (runF c v f).1, .int false .i64 (runF c v f).2]) := by
  refine pure_of_call E_ok (callOk_of E_ok F6_ok 400) ?_
  rw [cond_run]
  simp only [bif_true, bif_false, bif_nt, bif_tf, bif_ft, beq_iff_eq, bne_iff_ne, beq_eq_false_iff_ne, bne_eq_false_iff_eq, decide_eq_true_eq, decide_eq_false_iff_not, Bool.or_eq_true, Bool.or_eq_false_iff, Bool.not_eq_true', Bool.not_eq_false', Bool.and_eq_true, Bool.and_true, Bool.true_and, Bool.and_eq_false_iff, beq_self_eq_true, mm2_max, mm2_min, ne_eq, and_true, true_and, Bool.true_eq_false, Bool.false_eq_true, false_or, or_false, true_implies, Int.ofNat_eq_natCast, not_true_eq_false, not_false_eq_true, Decidable.not_not, gt_iff_lt, ge_iff_le]
  refine ⟨fun hv => ?_, fun hv => ?_⟩
  · unfold runF; rw [if_pos hv]; simp [St.zero]
  have hrun : runF c v f = if (startF f).2 ≠ 0 then (.zero, (startF f).2) else (itF c v (f.toNat + 1) (St.start f), 0) := by
    unfold runF; rw [if_neg (by simpa using hv)]
  refine ⟨fun b => (b = true ↔ (f < 0 ∨ 32768 < f)), ⟨fun h => by simp [h], fun h => ⟨fun h' => by simp [h'], fun h' => by simp; omega⟩⟩, fun hQ => ?_, fun hQ => ?_⟩
  · have hQ := hQ.1 rfl
    have e : startF f = (.zero, 1) := by unfold startF; rw [if_pos hQ]
    rw [hrun, e]; simp [St.zero]
  have hQ : ¬ (f < 0 ∨ 32768 < f) := fun h => absurd (hQ.2 h) (by simp)
  have e : startF f = (.start f, 0) := by unfold startF; rw [if_neg hQ]
  rw [hrun, e]
  simp only [ne_eq, not_true_eq_false, if_false]
  obtain ⟨D, hD⟩ := verF_safe hv
  refine ⟨fun x => (x.s.status = 0 → Good c D x.s ∧ x.s.fuel ≤ 32768 ∧ x.s.fuel < x.r) ∧ itF c v (x.s.fuel.toNat + 1) x.s = itF c v (f.toNat + 1) (St.start f), ⟨⟨St.start f, f.toNat + 1⟩, ⟨fun _ => ⟨good_start hD (by omega), by show f ≤ 32768; omega, by show f < ((f.toNat + 1 : Nat) : Int); omega⟩, rfl⟩, by simp [St.start]⟩, fun x hR => ⟨fun hs => ?_, fun hs => ?_⟩⟩
  · obtain ⟨hg, hit⟩ := hR
    obtain ⟨hg, hf, hr⟩ := hg hs
    have hf0 := hg.fuel
    refine ⟨good_can hD hg hf, ?_⟩
    have e1 : itF c v (x.s.fuel.toNat + 1) x.s = itF c v x.s.fuel.toNat (advF c v x.s 0) := by simp [itF, hs]
    rw [e1] at hit
    by_cases h0 : x.s.fuel = 0
    · have ea : advF c v x.s 0 = { x.s with status := 220 } := adv_done h0
      have hst : (advF c v x.s 0).status ≠ 0 := by rw [ea]; show (220 : Int) ≠ 0; omega
      refine ⟨⟨advF c v x.s 0, 0⟩, ⟨fun h => absurd h hst, ?_⟩, by show 0 + 1 ≤ x.r; omega, by simp⟩
      show itF c v _ (advF c v x.s 0) = _
      rw [itF_done hst] at hit ⊢
      exact hit
    · obtain ⟨p1, p2, p3, p4⟩ := adv_good (v := v) hD hg (by omega)
      refine ⟨⟨advF c v x.s 0, x.r - 1⟩, ⟨fun h => ⟨(p1 h).1, by show (advF c v x.s 0).fuel ≤ 32768; omega, by show (advF c v x.s 0).fuel < ((x.r - 1 : Nat) : Int); omega⟩, ?_⟩, by show x.r - 1 + 1 ≤ x.r; omega, by simp⟩
      show itF c v ((advF c v x.s 0).fuel.toNat + 1) (advF c v x.s 0) = _
      rw [p2, show (x.s.fuel - 1).toNat + 1 = x.s.fuel.toNat by omega]
      exact hit
  · have hit := hR.2
    rw [itF_done hs] at hit
    rw [← hit]; simp
theorem step_pure (c : List Ins) (v : Env) (s : St) : PureC E 15 [.psl .ins c false, envV v, stV s] (.tup [stV (stepF c v s).1, .int false .i64 (stepF c v s).2]) := by
  refine pure_of_call E_ok (callOk_of E_ok F6_ok 400) ?_
  rw [cond_step]
  simp only [bif_true, bif_false, bif_nt, bif_tf, bif_ft, beq_iff_eq, bne_iff_ne, beq_eq_false_iff_ne, bne_eq_false_iff_eq, decide_eq_true_eq, decide_eq_false_iff_not, Bool.or_eq_true, Bool.or_eq_false_iff, Bool.not_eq_true', Bool.not_eq_false', Bool.and_eq_true, Bool.and_true, Bool.true_and, Bool.and_eq_false_iff, beq_self_eq_true, mm2_max, mm2_min, ne_eq, and_true, true_and, Bool.true_eq_false, Bool.false_eq_true, false_or, or_false, true_implies, Int.ofNat_eq_natCast, not_true_eq_false, not_false_eq_true, Decidable.not_not, gt_iff_lt, ge_iff_le]
  refine ⟨fun hs => ?_, fun hs => ⟨fun hv => ⟨fun _ => ?_, fun h => absurd h hv⟩, fun hv => ?_⟩⟩
  · have hr : readyF c s 0 = 211 := by unfold readyF; rw [if_pos hs]
    unfold stepF; rw [hr]; simp [St.zero]
  · have hr : readyF c s 0 = (verF c).2 := by unfold readyF; rw [if_neg (by simpa using hs), if_pos hv]
    unfold stepF; rw [hr, if_pos hv]; simp [St.zero]
  have hr : readyF c s 0 = if s.pc < 0 ∨ c.length ≤ s.pc ∨ s.fuel < 0 ∨ 32768 < s.fuel ∨ s.clause ≠ 0 ∨ (0 : Int) < 0 ∨ 64 < (0 : Int) ∨ 64 - (0 : Int) < s.stack.length then 1 else 0 := by
    unfold readyF; rw [if_neg (by simpa using hs), if_neg (by simpa using hv)]
  refine ⟨fun b => (b = true ↔ (s.pc < 0 ∨ c.length ≤ s.pc ∨ s.fuel < 0 ∨ 32768 < s.fuel ∨ s.clause ≠ 0 ∨ 64 < (s.stack.length : Int))), ?_, fun hQ => ?_, fun hQ => ?_⟩
  · repeat' (first | (refine And.intro ?_ ?_) | (intro h))
    all_goals simp only [eq_self, true_iff, Bool.false_eq_true, false_iff]
    all_goals omega
  · have hQ := hQ.1 rfl
    rw [if_pos (by omega)] at hr
    unfold stepF; rw [hr]; simp [St.zero]
  · have hQ : ¬ (s.pc < 0 ∨ c.length ≤ s.pc ∨ s.fuel < 0 ∨ 32768 < s.fuel ∨ s.clause ≠ 0 ∨ 64 < (s.stack.length : Int)) := fun h => absurd (hQ.2 h) (by simp)
    rw [if_neg (by omega)] at hr
    obtain ⟨D, hD⟩ := verF_safe hv
    refine ⟨⟨hD.short, by omega, by omega, fun x hx => hD.formed _ _ hx, by omega, by omega, by omega, by omega, by omega⟩, ?_⟩
    unfold stepF; rw [hr]; simp
theorem result_pure (s : St) (h : s.stack.length ≤ 1000000) : PureC E 18 [stV s] (.tup [.int false .i64 (resultF s).1, .int false .i64 (resultF s).2.1, .int false .i64 (resultF s).2.2]) := by
  refine pure_of_call E_ok (callOk_of E_ok F6_ok 400) ?_
  rw [cond_result]
  have e1 : wr .i64 ((s.stack.length : Int) - 1) = s.stack.length - 1 := wr64 (by omega) (by omega)
  have e2 : wr .i64 (s.status - 10) = IntKind.i64.wrap (s.status - 10) := rfl
  simp only [bif_true, bif_false, bif_nt, bif_tf, bif_ft, beq_iff_eq, bne_iff_ne, beq_eq_false_iff_ne, bne_eq_false_iff_eq, decide_eq_true_eq, decide_eq_false_iff_not, Bool.or_eq_true, Bool.or_eq_false_iff, Bool.not_eq_true', Bool.not_eq_false', Bool.and_eq_true, Bool.and_true, Bool.true_and, Bool.and_eq_false_iff, beq_self_eq_true, mm2_max, mm2_min, ne_eq, and_true, true_and, Bool.true_eq_false, Bool.false_eq_true, false_or, or_false, true_implies, Int.ofNat_eq_natCast, not_true_eq_false, not_false_eq_true, Decidable.not_not, gt_iff_lt, ge_iff_le, e1, e2]
  unfold resultF
  refine ⟨fun h1 => ⟨fun h2 => ⟨by omega, by omega, fun x hx => ?_⟩, fun h2 => ⟨fun h3 => by omega, fun h3 => ?_⟩⟩, fun h1 => ⟨fun h3 => ?_, fun h3 => ?_⟩⟩
  · rw [show Int.toNat ((s.stack.length : Int) - 1) = s.stack.length - 1 by omega] at hx
    rw [if_pos ⟨h1, by omega⟩]; simp [List.getD_eq_getElem?_getD, hx]
  · rw [if_neg (by omega), if_neg (by omega)]; simp
  · rw [if_neg (by omega), if_pos h3]; simp
  · rw [if_neg (by omega), if_neg (by omega)]; simp
theorem rresult_pure (s : St) (h : s.stack.length ≤ 1000000) : PureC E 19 [stV s] (.tup [.int false .i64 (resultF s).1, .int false .i64 (resultF s).2.1, .int false .i64 (resultF s).2.2]) := by
  refine pure_of_call E_ok (callOk_of E_ok F6_ok 400) ?_
  rw [cond_rresult]
  have e1 : wr .i64 ((s.stack.length : Int) - 1) = s.stack.length - 1 := wr64 (by omega) (by omega)
  have e2 : wr .i64 (s.status - 10) = IntKind.i64.wrap (s.status - 10) := rfl
  simp only [bif_true, bif_false, bif_nt, bif_tf, bif_ft, beq_iff_eq, bne_iff_ne, beq_eq_false_iff_ne, bne_eq_false_iff_eq, decide_eq_true_eq, decide_eq_false_iff_not, Bool.or_eq_true, Bool.or_eq_false_iff, Bool.not_eq_true', Bool.not_eq_false', Bool.and_eq_true, Bool.and_true, Bool.true_and, Bool.and_eq_false_iff, beq_self_eq_true, mm2_max, mm2_min, ne_eq, and_true, true_and, Bool.true_eq_false, Bool.false_eq_true, false_or, or_false, true_implies, Int.ofNat_eq_natCast, not_true_eq_false, not_false_eq_true, Decidable.not_not, gt_iff_lt, ge_iff_le, e1, e2]
  refine ⟨fun b => (b = true ↔ (s.status = 1 ∧ 0 < (s.stack.length : Int))), ?_, fun hQ => ⟨?_, ?_, fun x hx => ?_⟩, fun hQ => ?_⟩
  · repeat' (first | (refine And.intro ?_ ?_) | (intro h))
    all_goals simp only [eq_self, true_iff, Bool.false_eq_true, false_iff]
    all_goals omega
  · have := hQ.1 rfl; omega
  · omega
  · have hQ := hQ.1 rfl
    rw [show Int.toNat ((s.stack.length : Int) - 1) = s.stack.length - 1 by omega] at hx
    unfold resultF
    rw [if_pos ⟨hQ.1, by omega⟩]; simp [List.getD_eq_getElem?_getD, hx]
  · have hQ : ¬ (s.status = 1 ∧ 0 < (s.stack.length : Int)) := fun h => absurd (hQ.2 h) (by simp)
    unfold resultF
    rw [if_neg (by omega)]
    refine ⟨fun h3 => ?_, fun h3 => ?_⟩
    · rw [if_pos h3]; simp
    · rw [if_neg h3]; simp
theorem same_pure (a b : St) (h : a.stack.length ≤ 1000000) : PureC E 12 [stV a, stV b] (.bool false (sameF a b)) := by
  refine pure_of_call E_ok (callOk_of E_ok F6_ok 400) ?_
  rw [cond_same]
  simp only [bif_true, bif_false, bif_nt, bif_tf, bif_ft, beq_iff_eq, bne_iff_ne, beq_eq_false_iff_ne, bne_eq_false_iff_eq, decide_eq_true_eq, decide_eq_false_iff_not, Bool.or_eq_true, Bool.or_eq_false_iff, Bool.not_eq_true', Bool.not_eq_false', Bool.and_eq_true, Bool.and_true, Bool.true_and, Bool.and_eq_false_iff, beq_self_eq_true, mm2_max, mm2_min, ne_eq, and_true, true_and, Bool.true_eq_false, Bool.false_eq_true, false_or, or_false, true_implies, Int.ofNat_eq_natCast, not_true_eq_false, not_false_eq_true, Decidable.not_not, gt_iff_lt, ge_iff_le, Int.toNat_natCast]
  unfold sameF
  refine ⟨fun h1 => ⟨fun h2 => ⟨fun h3 => ⟨fun h4 => ⟨fun h5 => ?_, fun h5 => ?_⟩, fun h4 => by simp [h4]⟩, fun h3 => by simp [h3]⟩, fun h2 => by simp [h2]⟩, fun h1 => by simp [h1]⟩
  · symm
    rw [decide_eq_false_iff_not]
    rintro ⟨_, _, _, _, e⟩
    exact h5 (by rw [e])
  refine ⟨fun x => x.k + x.r = a.stack.length ∧ a.stack.take x.k = b.stack.take x.k, ⟨⟨0, a.stack.length, [], 0⟩, by simp, by simp⟩, fun x hR => ⟨fun hlt => ⟨by omega, by omega, fun y hy => ⟨by omega, by omega, fun z hz => ⟨fun hyz => ?_, fun hyz => ?_⟩⟩⟩, fun hge => ?_⟩⟩
  · symm
    rw [decide_eq_false_iff_not]
    rintro ⟨_, _, _, _, e⟩
    rw [e, hz] at hy
    exact hyz (Option.some.inj hy).symm
  · obtain ⟨hk, ht⟩ := hR
    refine ⟨⟨x.k + 1, x.r - 1, [], 0⟩, ⟨by show x.k + 1 + (x.r - 1) = _; omega, ?_⟩, by show x.r - 1 + 1 ≤ x.r; omega, ?_⟩
    · show a.stack.take (x.k + 1) = b.stack.take (x.k + 1)
      obtain ⟨ha, rfl⟩ := List.getElem?_eq_some_iff.1 hy
      obtain ⟨hb, rfl⟩ := List.getElem?_eq_some_iff.1 hz
      rw [List.take_succ_eq_append_getElem ha, List.take_succ_eq_append_getElem hb, ht, hyz]
    · rw [wr64 (by omega) (by omega)]; simp
  · obtain ⟨hk, ht⟩ := hR
    rw [List.take_of_length_le (by omega), List.take_of_length_le (by omega)] at ht
    symm
    rw [decide_eq_true_eq]
    exact ⟨h1, h2, h3, h4, ht⟩
end Go.Proofs.YtcaomfbcchemnaaDoor
