/- Chapter 21: the laws of runs hold. -/
import Derived.Test.YtcaomfbcchemnaaDoorTvM
namespace Go.Proofs.YtcaomfbcchemnaaDoor
open Go
set_option linter.unusedVariables false
set_option linter.unusedSimpArgs false
theorem exec_len (x : Ins) (v : Env) (s : St) (b : Int) : (execF x v s b).1.stack.length ≤ s.stack.length + 1 := by
  unfold execF
  dsimp only [St.pops]
  repeat' split
  all_goals simp
  all_goals omega
theorem adv_len (c : List Ins) (v : Env) (s : St) (b : Int) : (advF c v s b).stack.length ≤ s.stack.length + 1 := by
  unfold advF
  split
  · show s.stack.length ≤ _; omega
  · split
    · omega
    · rename_i x hx
      split
      · exact exec_len x v { s with fuel := s.fuel - 1 } b
      · show s.stack.length ≤ _; omega
theorem it_len {c : List Ins} {D : List Int} {v : Env} (hc : Safe c D) : ∀ (N : Nat) (s : St), Good c D s → (itF c v N s).stack.length ≤ 65
  | 0, s, hg => by have := hg.small hc; show s.stack.length ≤ 65; omega
  | N + 1, s, hg => by
    have hs := hg.small hc
    have hl := adv_len c v s 0
    have e : itF c v (N + 1) s = itF c v N (advF c v s 0) := by simp [itF, hg.status]
    rw [e]
    by_cases h0 : s.fuel = 0
    · rw [itF_done (by rw [adv_done h0]; show (220 : Int) ≠ 0; omega)]; omega
    · have hf := hg.fuel
      obtain ⟨p1, p2, p3, p4⟩ := adv_good (v := v) hc hg (by omega)
      by_cases hz : (advF c v s 0).status = 0
      · exact it_len hc N _ (p1 hz).1
      · rw [itF_done hz]; omega
theorem run_len {c : List Ins} {v : Env} {k : Int} : (runF c v k).1.stack.length ≤ 65 := by
  unfold runF
  split
  · show [].length ≤ 65; simp
  · rename_i hv
    obtain ⟨D, hD⟩ := verF_safe (c := c) (by simpa using hv)
    split
    · show [].length ≤ 65; simp
    · rename_i hs
      have hk : 0 ≤ k := by
        unfold startF at hs
        split at hs
        · simp at hs
        · omega
      exact it_len hD _ _ (good_start hD hk)
theorem sameF_refl (a : St) : sameF a a = true := by simp [sameF]
theorem ends_pure (c : List Ins) (v : Env) (f : Int) : PureC E 3 [.psl .ins c false, envV v, .int false .i64 f] (.bool false true) := by
  refine pure_of_call E_ok (callOk_of E_ok F7_ok 400) ?_
  rw [cond_ends]
  simp only [bif_true, bif_false, bif_nt, bif_tf, bif_ft, beq_iff_eq, bne_iff_ne, beq_eq_false_iff_ne, bne_eq_false_iff_eq, decide_eq_true_eq, decide_eq_false_iff_not, Bool.or_eq_true, Bool.or_eq_false_iff, Bool.not_eq_true', Bool.not_eq_false', Bool.and_eq_true, Bool.and_true, Bool.true_and, Bool.and_eq_false_iff, beq_self_eq_true, mm2_max, mm2_min, ne_eq, and_true, true_and, Bool.true_eq_false, Bool.false_eq_true, false_or, or_false, true_implies, Int.ofNat_eq_natCast, not_true_eq_false, not_false_eq_true, Decidable.not_not, gt_iff_lt, ge_iff_le, Bool.not_true]
  refine ⟨fun h => h.elim, fun hc => ⟨fun hv => trivial, fun hv => ?_⟩, fun hc => trivial⟩
  obtain ⟨D, hD⟩ := verF_safe hv
  obtain ⟨r1, r2, r3, r4, r5, r6⟩ := run_ends (v := v) hD hv
  obtain ⟨k, hk⟩ : ∃ k, k = wr .i64 (Int.tmod (wr .u64 f) 32769) := ⟨_, rfl⟩
  have hk0 : 0 ≤ k ∧ k ≤ 32768 := by
    have h1 : 0 ≤ wr .u64 f := by simp only [wr, IntKind.wrap_u64]; omega
    have h2 := Int.tmod_nonneg (b := 32769) h1
    have h3 := Int.tmod_lt_of_pos (wr .u64 f) (b := 32769) (by omega)
    rw [wr64 (by omega) (by omega)] at hk
    omega
  simp only [← hk]
  obtain ⟨k1, k2, k3⟩ := r6 k hk0.1 hk0.2
  generalize hs : (runF c v (c.length : Int)).1 = s at *
  refine ⟨fun b => b = false, ?_, fun h => by simp at h, fun _ => ?_⟩
  · refine ⟨fun h => absurd r1 h, fun _ => ⟨fun h => absurd h r2, fun _ => ⟨fun h => absurd h r3, fun _ => ⟨fun h => by omega, fun _ => ⟨fun h => by omega, fun _ => rfl⟩⟩⟩⟩⟩
  · rw [wr64 (by omega) (by omega)]
    refine ⟨fun h => absurd k1 h, fun _ => ⟨fun hlt => ?_, fun hge => ?_⟩⟩
    · obtain ⟨a1, a2⟩ := k2 hlt
      exact ⟨fun _ => ⟨fun _ => trivial, fun h => absurd a2 h⟩, fun h => absurd a1 h⟩
    · have e := k3 (by omega)
      refine ⟨by have := run_len (c := c) (v := v) (k := k); omega, ?_⟩
      rw [e]
      rw [wr64 (n := k - (c.length : Int)) (by omega) (by omega)]
      dsimp only
      rw [show s.fuel + (k - (c.length : Int)) - (k - (c.length : Int)) = s.fuel by omega, wr64 (by omega) (by omega)]
      exact sameF_refl s
theorem steps_pure (c : List Ins) (v : Env) : PureC E 5 [.psl .ins c false, envV v] (.bool false true) := by
  refine pure_of_call E_ok (callOk_of E_ok F7_ok 400) ?_
  rw [cond_steps]
  simp only [bif_true, bif_false, bif_nt, bif_tf, bif_ft, beq_iff_eq, bne_iff_ne, beq_eq_false_iff_ne, bne_eq_false_iff_eq, decide_eq_true_eq, decide_eq_false_iff_not, Bool.or_eq_true, Bool.or_eq_false_iff, Bool.not_eq_true', Bool.not_eq_false', Bool.and_eq_true, Bool.and_true, Bool.true_and, Bool.and_eq_false_iff, beq_self_eq_true, mm2_max, mm2_min, ne_eq, and_true, true_and, Bool.true_eq_false, Bool.false_eq_true, false_or, or_false, true_implies, Int.ofNat_eq_natCast, not_true_eq_false, not_false_eq_true, Decidable.not_not, gt_iff_lt, ge_iff_le, Bool.not_true]
  refine ⟨fun h => h.elim, fun hc => ⟨fun hv => trivial, fun hv => ?_⟩, fun hc => trivial⟩
  obtain ⟨D, hD⟩ := verF_safe hv
  obtain ⟨r1, r2, r3, r4, r5, r6⟩ := run_ends (v := v) hD hv
  have hshort := hD.short
  have hst : startF (c.length : Int) = (.start c.length, 0) := by unfold startF; rw [if_neg (by omega)]
  rw [hst]
  refine ⟨fun b => b = false, ⟨fun h => absurd rfl h, fun _ => ⟨fun h => absurd r1 h, fun _ => rfl⟩⟩, fun h => by simp at h, fun _ => ?_⟩
  refine ⟨fun x => Stepping c D v x.k x.s ∧ x.k + x.r = c.length, ⟨⟨.start c.length, 0, c.length⟩, ⟨stepping_start hD, by simp⟩, by simp⟩, fun x hR => ?_⟩
  obtain ⟨hS, hkr⟩ := hR
  refine ⟨fun b => (b = true ↔ (x.k < c.length ∧ x.s.status = 0)), ?_, fun hQ => ?_, fun hQ => ?_⟩
  · repeat' (first | (refine And.intro ?_ ?_) | (intro h))
    all_goals simp only [eq_self, true_iff, Bool.false_eq_true, false_iff]
    all_goals omega
  · obtain ⟨hlt, hs⟩ := hQ.1 rfl
    obtain ⟨e1, e2, e3, e4, e5⟩ := stepping_step (v := v) hD hv hS hs
    obtain ⟨hg, g1, g2⟩ := hS.run hs
    rw [e1]
    dsimp only
    refine ⟨fun b => b = false, ?_, fun h => by simp at h, fun _ => ?_⟩
    · rw [wr64 (by omega) (by omega)]
      refine ⟨fun h => absurd rfl h, fun _ => ⟨fun h => absurd e3 h, fun _ => ⟨fun hz => ⟨fun h => by have := e4 hz; omega, fun _ => ⟨fun h => absurd hz h, fun _ => rfl⟩⟩, fun hz => ⟨fun _ => ⟨fun h => absurd (e5 hz) h, fun _ => rfl⟩, fun h => absurd h hz⟩⟩⟩⟩
    · refine ⟨⟨advF c v x.s 0, x.k + 1, x.r - 1⟩, ⟨e2, by show x.k + 1 + (x.r - 1) = _; omega⟩, by show x.r - 1 + 1 ≤ x.r; omega, ?_⟩
      rw [wr64 (by omega) (by omega)]
      simp
  · have hQ : ¬ (x.k < c.length ∧ x.s.status = 0) := fun h => absurd (hQ.2 h) (by simp)
    obtain ⟨e1, e2⟩ := stepping_end (v := v) hD hv hS (by omega) hQ
    have hl : x.s.stack.length ≤ 65 := by rw [e1]; exact run_len
    refine ⟨by omega, fun _ => ⟨fun _ => trivial, fun h => absurd e2 h⟩, fun h => ?_⟩
    rw [← e1, sameF_refl] at h
    exact absurd h (by simp)
end Go.Proofs.YtcaomfbcchemnaaDoor
