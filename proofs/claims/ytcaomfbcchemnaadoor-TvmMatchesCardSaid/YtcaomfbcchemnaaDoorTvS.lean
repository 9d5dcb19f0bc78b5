/- Chapter 21: TvmMatches. -/
import Derived.Test.YtcaomfbcchemnaaDoorTvR
namespace Go.Proofs.YtcaomfbcchemnaaDoor
open Go
set_option linter.unusedVariables false
set_option linter.unusedSimpArgs false
noncomputable def Ssts : Sum thy := sumP (dL3 dCode dEnv dI) (fun x => (verF x.1).2 = 0 ∧ 0 ≤ x.2.2.1 ∧ x.2.2.1 ≤ 32768) fun x => .psl Th.sts (stsF x.1 x.2.1 (x.2.2.1.toNat + 1) (St.start x.2.2.1)) false
noncomputable def F10 : Fns thy := addS (addS F9 39 Ssts) 16 Sstep
theorem F10_ok : FnsOk E F10 := by
  refine addS_ok (addS_ok F9_ok ?_) ?_
  · exact sumP_ok E_ok (good_of (f := 39) rfl) fun x h => states_pure x.1 x.2.1 x.2.2.1 h.1 h.2.1 h.2.2
  · exact sumP_ok E_ok (good_of (f := 16) rfl) fun x _ => rstep_pure x.1 x.2.1 x.2.2.1
--@cond rrun | 17 | F10 | 400 | (c : List Ins) (v : Env) (f : Int) | [.psl .ins c false, envV v, .int false .i64 f] | (z : St) (e : Int) | .tup [stV z, .int false .i64 e]
theorem cond_rrun (c : List Ins) (v : Env) (f : Int) (z : St) (e : Int) : callF E F10 (vc E F10 400) 17 [.psl .ins c false, envV v, .int false .i64 f] hp0 0 (fun r => ret E (patch hp0 0 r) r.v (.tup [stV z, .int false .i64 e])) = (
  True ∧ ((Prod.snd (verF c) != (0 : Int)) = true → ((0 : Int) = St.pc z ∧ (0 : Int) = St.fuel z ∧ (0 : Int) = St.status z ∧ (0 : Int) = St.clause z ∧ St.stack z = [] ∧ True) ∧
  Prod.snd (verF c) = e ∧ True) ∧ ((Prod.snd (verF c) != (0 : Int)) = false → ∃ (Q : Bool → Prop), ((decide (f < (0 : Int)) = true → Q true) ∧ (decide (f < (0 : Int)) = false →
  (decide (f > (32768 : Int)) = true → Q true) ∧ (decide (f > (32768 : Int)) = false → Q false))) ∧ (Q true → ((0 : Int) = St.pc z ∧ (0 : Int) = St.fuel z ∧ (0 : Int) = St.status z ∧
  (0 : Int) = St.clause z ∧ St.stack z = [] ∧ True) ∧ (1 : Int) = e ∧ True) ∧ (Q false → (Prod.snd (verF c) = (0 : Int) ∧ (0 : Int) ≤ f ∧ f ≤ (32768 : Int)) ∧ (0 : Int) ≤ wr
  IntKind.i64 ((↑(List.length (stsF c v (Int.toNat f + (1 : Nat)) (St.start f))) : Int) - (1 : Int)) ∧ wr IntKind.i64 ((↑(List.length (stsF c v (Int.toNat f + (1 : Nat)) (St.start
  f))) : Int) - (1 : Int)) + (1 : Int) ≤ (↑(List.length (stsF c v (Int.toNat f + (1 : Nat)) (St.start f))) : Int) ∧ ∀ (x : St), (stsF c v (Int.toNat f + (1 : Nat)) (St.start
  f))[Int.toNat (wr IntKind.i64 ((↑(List.length (stsF c v (Int.toNat f + (1 : Nat)) (St.start f))) : Int) - (1 : Int)))]? = some x → (St.pc x = St.pc z ∧ St.fuel x = St.fuel z ∧
  St.status x = St.status z ∧ St.clause x = St.clause z ∧ (St.stack x = St.stack z ∧ (false = true → false = true)) ∧ True) ∧ (0 : Int) = e ∧ True))
  ) := by kernel_rfl
--@end
theorem rrun_pure (c : List Ins) (v : Env) (f : Int) : PureC E 17 [.psl .ins c false, envV v, .int false .i64 f] (.tup [stV (runF c v f).1, .int false .i64 (runF c v f).2]) := by
  refine pure_of_call E_ok (callOk_of E_ok F10_ok 400) ?_
  rw [cond_rrun]
  simp only [bif_true, bif_false, bif_nt, bif_tf, bif_ft, beq_iff_eq, bne_iff_ne, beq_eq_false_iff_ne, bne_eq_false_iff_eq, decide_eq_true_eq, decide_eq_false_iff_not, Bool.or_eq_true, Bool.or_eq_false_iff, Bool.not_eq_true', Bool.not_eq_false', Bool.and_eq_true, Bool.and_true, Bool.true_and, Bool.and_eq_false_iff, beq_self_eq_true, mm2_max, mm2_min, ne_eq, and_true, true_and, Bool.true_eq_false, Bool.false_eq_true, false_or, or_false, true_implies, Int.ofNat_eq_natCast, not_true_eq_false, not_false_eq_true, Decidable.not_not, gt_iff_lt, ge_iff_le]
  refine ⟨fun hv => ?_, fun hv => ?_⟩
  · unfold runF; rw [if_pos hv]; simp [St.zero]
  have hrun : runF c v f = if (startF f).2 ≠ 0 then (.zero, (startF f).2) else (itF c v (f.toNat + 1) (St.start f), 0) := by
    unfold runF; rw [if_neg (by simpa using hv)]
  refine ⟨fun b => (b = true ↔ (f < 0 ∨ 32768 < f)), ⟨fun h => by simp [h], fun h => ⟨fun h' => by simp [h'], fun h' => by simp; omega⟩⟩, fun hQ => ?_, fun hQ => ?_⟩
  · have hQ := hQ.1 rfl
    have e : startF f = (.zero, 1) := by unfold startF; rw [if_pos hQ]
    rw [hrun, e]; simp [St.zero]
  have hQ : ¬ (f < 0 ∨ 32768 < f) := fun h => absurd (hQ.2 h) (by simp)
  have e : startF f = (.start f, 0) := by unfold startF; rw [if_neg hQ]
  rw [hrun, e]
  simp only [ne_eq, not_true_eq_false, if_false]
  have hl := stsF_len (c := c) (v := v) (f.toNat + 1) (St.start f)
  have hlast := stsF_last (c := c) (v := v) (f.toNat + 1) (St.start f)
  generalize stsF c v (f.toNat + 1) (St.start f) = L at *
  rw [wr64 (by omega) (by omega)]
  refine ⟨⟨hv, by omega, by omega⟩, by omega, by omega, fun x hx => ?_⟩
  rw [show Int.toNat ((L.length : Int) - 1) = L.length - 1 by omega, hlast] at hx
  cases hx
  simp
noncomputable def F11 : Fns thy := addS F10 17 Srun
theorem F11_ok : FnsOk E F11 := addS_ok F10_ok (sumP_ok E_ok (good_of (f := 17) rfl) fun x _ => rrun_pure x.1 x.2.1 x.2.2.1)
--@cond matches | 4 | F11 | 400 | (c : List Ins) (v : Env) (s : St) (f : Int) | [.psl .ins c false, envV v, stV s, .int false .i64 f] | (b : Bool) | .bool false b
theorem cond_matches (c : List Ins) (v : Env) (s : St) (f : Int) (b : Bool) : callF E F11 (vc E F11 400) 4 [.psl .ins c false, envV v, stV s, .int false .i64 f] hp0 0 (fun r => ret E (patch hp0 0 r) r.v (.bool false b)) = (
  True ∧ ((!true) = true → false = b) ∧ ((!true) = false → (decide ((↑(List.length c) : Int) ≤ (60 : Int)) = true → (decide ((↑(List.length (St.stack s)) : Int) ≤ (66 : Int)) = true
  → True ∧ True ∧ True ∧ True ∧ True ∧ True ∧ List.length (St.stack s) ≤ (1000000 : Nat) ∧ List.length (St.stack s) ≤ (1000000 : Nat) ∧ List.length (St.stack (Prod.fst (startF f))) ≤
  (1000000 : Nat) ∧ (sameF (Prod.fst (startF f)) (Prod.fst (startF f)) = true → ((Prod.snd (startF f) == Prod.snd (startF f)) = true → List.length (St.stack (Prod.fst (stepF c v s)))
  ≤ (1000000 : Nat) ∧ (sameF (Prod.fst (stepF c v s)) (Prod.fst (stepF c v s)) = true → ((Prod.snd (stepF c v s) == Prod.snd (stepF c v s)) = true → List.length (St.stack (Prod.fst
  (runF c v f))) ≤ (1000000 : Nat) ∧ (sameF (Prod.fst (runF c v f)) (Prod.fst (runF c v f)) = true → ((Prod.snd (runF c v f) == Prod.snd (runF c v f)) = true → ((Prod.fst (resultF s)
  == Prod.fst (resultF s)) = true → ((Prod.fst (Prod.snd (resultF s)) == Prod.fst (Prod.snd (resultF s))) = true → ((Prod.snd (Prod.snd (resultF s)) == Prod.snd (Prod.snd (resultF
  s))) = true → true = b) ∧ ((Prod.snd (Prod.snd (resultF s)) == Prod.snd (Prod.snd (resultF s))) = false → false = b)) ∧ ((Prod.fst (Prod.snd (resultF s)) == Prod.fst (Prod.snd
  (resultF s))) = false → false = b)) ∧ ((Prod.fst (resultF s) == Prod.fst (resultF s)) = false → false = b)) ∧ ((Prod.snd (runF c v f) == Prod.snd (runF c v f)) = false → false =
  b)) ∧ (sameF (Prod.fst (runF c v f)) (Prod.fst (runF c v f)) = false → false = b)) ∧ ((Prod.snd (stepF c v s) == Prod.snd (stepF c v s)) = false → false = b)) ∧ (sameF (Prod.fst
  (stepF c v s)) (Prod.fst (stepF c v s)) = false → false = b)) ∧ ((Prod.snd (startF f) == Prod.snd (startF f)) = false → false = b)) ∧ (sameF (Prod.fst (startF f)) (Prod.fst (startF
  f)) = false → false = b)) ∧ (decide ((↑(List.length (St.stack s)) : Int) ≤ (66 : Int)) = false → true = b)) ∧ (decide ((↑(List.length c) : Int) ≤ (60 : Int)) = false → true = b))
  ) := by kernel_rfl
--@end
theorem matches_pure (c : List Ins) (v : Env) (s : St) (f : Int) : PureC E 4 [.psl .ins c false, envV v, stV s, .int false .i64 f] (.bool false true) := by
  refine pure_of_call E_ok (callOk_of E_ok F11_ok 400) ?_
  rw [cond_matches]
  have h1 : (startF f).1.stack.length ≤ 1000000 := by
    unfold startF
    split
    · show [].length ≤ _; simp
    · show [].length ≤ _; simp
  have h2 : s.stack.length ≤ 66 → (stepF c v s).1.stack.length ≤ 1000000 := fun h => by
    unfold stepF
    split
    · show [].length ≤ _; simp
    · have := adv_len c v s 0
      show (advF c v s 0).stack.length ≤ _; omega
  have h3 : (runF c v f).1.stack.length ≤ 1000000 := by have := run_len (c := c) (v := v) (k := f); omega
  simp only [sameF_refl, bif_true, bif_false, bif_nt, bif_tf, bif_ft, beq_iff_eq, bne_iff_ne, beq_eq_false_iff_ne, bne_eq_false_iff_eq, decide_eq_true_eq, decide_eq_false_iff_not, Bool.or_eq_true, Bool.or_eq_false_iff, Bool.not_eq_true', Bool.not_eq_false', Bool.and_eq_true, Bool.and_true, Bool.true_and, Bool.and_eq_false_iff, beq_self_eq_true, mm2_max, mm2_min, ne_eq, and_true, true_and, Bool.true_eq_false, Bool.false_eq_true, false_or, or_false, true_implies, Int.ofNat_eq_natCast, not_true_eq_false, not_false_eq_true, Decidable.not_not, gt_iff_lt, ge_iff_le, Bool.not_true]
  refine ⟨fun h => h.elim, fun hc => ⟨fun hs => ?_, fun _ => trivial⟩, fun _ => trivial⟩
  have hs' : s.stack.length ≤ 66 := by omega
  have h4 := h2 hs'
  have h5 : s.stack.length ≤ 1000000 := by omega
  simp [h1, h3, h4, h5]
end Go.Proofs.YtcaomfbcchemnaaDoor
