/- Chapter 21: runs of the specification's machine. -/
import Derived.Test.YtcaomfbcchemnaaDoorTvN
import Derived.Test.YtcaomfbcchemnaaDoorTvP
import Derived.Test.YtcaomfbcchemnaaDoorTvQ
namespace Go.Proofs.YtcaomfbcchemnaaDoor
open Go
set_option linter.unusedVariables false
set_option linter.unusedSimpArgs false
noncomputable def Srstart : Sum thy := Sstart
/-- a machine's state, the states before it and itself, and how many rounds are left -/
structure SLX where
  s : St
  L : List St
  r : Nat
/-- the loop of States -/
def A39 : Fr thy → Hp thy → Nat → Ann thy := fun T h i => { X := SLX, fr := fun x => [(0, T 0), (4, T 4), (7, T 7), (8, .sl i 0 x.L.length 5 none)], bl := fun x => [(i, .rows Th.sts x.L 0), (bOf (T 7), .raw (stV x.s).cells 0 none)] ++ blkP h (T 4), src := [(i, 8)], md := [bOf (T 7), bOf (T 8)], ih := i + 1, M := i + 40, meas := fun x => x.r }
noncomputable def F9 : Fns thy := addL (addS (addS (addS (addS F7 36 Sver) 38 Sadv) 14 Sstart) 19 Sresult) 39 3 A39 E
theorem F9_ok : FnsOk E F9 := by
  refine addL_ok E_ok (addS_ok (addS_ok (addS_ok (addS_ok F7_ok ?_) ?_) ?_) ?_) _ _ _
  · exact sumP_ok E_ok (good_of (f := 36) rfl) fun x _ => rverify_pure x.1
  · exact sumP_ok E_ok (good_of (f := 38) rfl) fun x h => radvance_pure x.1 x.2.1 x.2.2.1 x.2.2.2.1 h
  · exact sumP_ok E_ok (good_of (f := 14) rfl) fun x _ => rstart_pure x.1
  · exact sumP_ok E_ok (good_of (f := 19) rfl) fun x h => rresult_pure x.1 h
--@cond states | 39 | F9 | 400 | (c : List Ins) (v : Env) (f : Int) | [.psl .ins c false, envV v, .int false .i64 f] | (l : List St) | .psl Th.sts l false
theorem cond_states (c : List Ins) (v : Env) (f : Int) (l : List St) : callF E F9 (vc E F9 400) 39 [.psl .ins c false, envV v, .int false .i64 f] hp0 0 (fun r => ret E (patch hp0 0 r) r.v (.psl Th.sts l false)) = (
  ∃ (R : SLX → Prop), (∃ (x : SLX), R x ∧ true = true ∧ ((c = c ∧ (false = true → false = true)) ∧ (0 : Nat) = (0 : Nat) ∧ (0 : Nat) = (0 : Nat) ∧ ((0 : Nat) = (0 : Nat) ∧ (1 : Nat)
  = List.length (SLX.L x) ∧ True) ∧ True) ∧ [St.mk (0 : Int) f (0 : Int) (0 : Int) []] = SLX.L x ∧ ((0 : Int) = St.pc (SLX.s x) ∧ f = St.fuel (SLX.s x) ∧ (0 : Int) = St.status (SLX.s
  x) ∧ (0 : Int) = St.clause (SLX.s x) ∧ St.stack (SLX.s x) = [] ∧ True) ∧ (Env.has v = Env.has v ∧ Env.v0 v = Env.v0 v ∧ Env.v1 v = Env.v1 v ∧ Env.v2 v = Env.v2 v ∧ Env.v3 v =
  Env.v3 v ∧ Env.v4 v = Env.v4 v ∧ Env.v5 v = Env.v5 v ∧ Env.v6 v = Env.v6 v ∧ Env.v7 v = Env.v7 v ∧ Env.v8 v = Env.v8 v ∧ Env.v9 v = Env.v9 v ∧ Env.v10 v = Env.v10 v ∧ Env.v11 v =
  Env.v11 v ∧ Env.v12 v = Env.v12 v ∧ Env.v13 v = Env.v13 v ∧ Env.v14 v = Env.v14 v ∧ Env.v15 v = Env.v15 v ∧ True) ∧ True) ∧ ∀ (x : SLX), R x → ((St.status (SLX.s x) == (0 : Int)) =
  true → CanAdv c (SLX.s x) (0 : Int) ∧ (List.length (SLX.L x) ≤ List.length (SLX.L x) ∧ (0 : Nat) ≤ List.length (SLX.L x) ∧ (List.length (SLX.L x) + (1 : Nat)) * (56 : Nat) ≤
  (140737488355328 : Nat)) ∧ ∃ (x' : SLX), R x' ∧ x'.3 + (1 : Nat) ≤ x.3 ∧ true = true ∧ ((c = c ∧ (false = true → false = true)) ∧ (0 : Nat) = (0 : Nat) ∧ (0 : Nat) = (0 : Nat) ∧
  ((0 : Nat) = (0 : Nat) ∧ List.length (SLX.L x) + (1 : Nat) = List.length (SLX.L x') ∧ True) ∧ True) ∧ (List.take (List.length (SLX.L x)) (SLX.L x) ++ [advF c v (SLX.s x) (0 : Int)]
  = SLX.L x' ∧ (0 : Nat) = (0 : Nat)) ∧ (St.pc (advF c v (SLX.s x) (0 : Int)) = St.pc (SLX.s x') ∧ St.fuel (advF c v (SLX.s x) (0 : Int)) = St.fuel (SLX.s x') ∧ St.status (advF c v
  (SLX.s x) (0 : Int)) = St.status (SLX.s x') ∧ St.clause (advF c v (SLX.s x) (0 : Int)) = St.clause (SLX.s x') ∧ (St.stack (advF c v (SLX.s x) (0 : Int)) = St.stack (SLX.s x') ∧
  (false = true → false = true)) ∧ True) ∧ (Env.has v = Env.has v ∧ Env.v0 v = Env.v0 v ∧ Env.v1 v = Env.v1 v ∧ Env.v2 v = Env.v2 v ∧ Env.v3 v = Env.v3 v ∧ Env.v4 v = Env.v4 v ∧
  Env.v5 v = Env.v5 v ∧ Env.v6 v = Env.v6 v ∧ Env.v7 v = Env.v7 v ∧ Env.v8 v = Env.v8 v ∧ Env.v9 v = Env.v9 v ∧ Env.v10 v = Env.v10 v ∧ Env.v11 v = Env.v11 v ∧ Env.v12 v = Env.v12 v
  ∧ Env.v13 v = Env.v13 v ∧ Env.v14 v = Env.v14 v ∧ Env.v15 v = Env.v15 v ∧ True) ∧ True) ∧ ((St.status (SLX.s x) == (0 : Int)) = false → (0 : Nat) + List.length (SLX.L x) ≤
  List.length (SLX.L x) ∧ List.take (List.length (SLX.L x)) (SLX.L x) = l)
  ) := by kernel_rfl
--@end
--@cond rstep | 16 | F9 | 400 | (c : List Ins) (v : Env) (s : St) | [.psl .ins c false, envV v, stV s] | (z : St) (e : Int) | .tup [stV z, .int false .i64 e]
theorem cond_rstep (c : List Ins) (v : Env) (s : St) (z : St) (e : Int) : callF E F9 (vc E F9 400) 16 [.psl .ins c false, envV v, stV s] hp0 0 (fun r => ret E (patch hp0 0 r) r.v (.tup [stV z, .int false .i64 e])) = (
  ((St.status s != (0 : Int)) = true → ((0 : Int) = St.pc z ∧ (0 : Int) = St.fuel z ∧ (0 : Int) = St.status z ∧ (0 : Int) = St.clause z ∧ St.stack z = [] ∧ True) ∧ (211 : Int) = e ∧
  True) ∧ ((St.status s != (0 : Int)) = false → True ∧ ((Prod.snd (verF c) != (0 : Int)) = true → ((0 : Int) = St.pc z ∧ (0 : Int) = St.fuel z ∧ (0 : Int) = St.status z ∧ (0 : Int) =
  St.clause z ∧ St.stack z = [] ∧ True) ∧ Prod.snd (verF c) = e ∧ True) ∧ ((Prod.snd (verF c) != (0 : Int)) = false → (decide (St.pc s ≥ (0 : Int)) = true → (decide (St.pc s <
  (↑(List.length c) : Int)) = true → (decide (St.fuel s ≥ (0 : Int)) = true → (decide (St.fuel s ≤ (32768 : Int)) = true → ((St.clause s == (0 : Int)) = true → (decide
  ((↑(List.length (St.stack s)) : Int) ≤ (64 : Int)) = true → CanAdv c s (0 : Int) ∧ (St.pc (advF c v s (0 : Int)) = St.pc z ∧ St.fuel (advF c v s (0 : Int)) = St.fuel z ∧ St.status
  (advF c v s (0 : Int)) = St.status z ∧ St.clause (advF c v s (0 : Int)) = St.clause z ∧ (St.stack (advF c v s (0 : Int)) = St.stack z ∧ (false = true → false = true)) ∧ True) ∧ (0
  : Int) = e ∧ True) ∧ (decide ((↑(List.length (St.stack s)) : Int) ≤ (64 : Int)) = false → ((0 : Int) = St.pc z ∧ (0 : Int) = St.fuel z ∧ (0 : Int) = St.status z ∧ (0 : Int) =
  St.clause z ∧ St.stack z = [] ∧ True) ∧ (1 : Int) = e ∧ True)) ∧ ((St.clause s == (0 : Int)) = false → ((0 : Int) = St.pc z ∧ (0 : Int) = St.fuel z ∧ (0 : Int) = St.status z ∧ (0 :
  Int) = St.clause z ∧ St.stack z = [] ∧ True) ∧ (1 : Int) = e ∧ True)) ∧ (decide (St.fuel s ≤ (32768 : Int)) = false → ((0 : Int) = St.pc z ∧ (0 : Int) = St.fuel z ∧ (0 : Int) =
  St.status z ∧ (0 : Int) = St.clause z ∧ St.stack z = [] ∧ True) ∧ (1 : Int) = e ∧ True)) ∧ (decide (St.fuel s ≥ (0 : Int)) = false → ((0 : Int) = St.pc z ∧ (0 : Int) = St.fuel z ∧
  (0 : Int) = St.status z ∧ (0 : Int) = St.clause z ∧ St.stack z = [] ∧ True) ∧ (1 : Int) = e ∧ True)) ∧ (decide (St.pc s < (↑(List.length c) : Int)) = false → ((0 : Int) = St.pc z ∧
  (0 : Int) = St.fuel z ∧ (0 : Int) = St.status z ∧ (0 : Int) = St.clause z ∧ St.stack z = [] ∧ True) ∧ (1 : Int) = e ∧ True)) ∧ (decide (St.pc s ≥ (0 : Int)) = false → ((0 : Int) =
  St.pc z ∧ (0 : Int) = St.fuel z ∧ (0 : Int) = St.status z ∧ (0 : Int) = St.clause z ∧ St.stack z = [] ∧ True) ∧ (1 : Int) = e ∧ True)))
  ) := by kernel_rfl
--@end
def stsF (c : List Ins) (v : Env) : Nat → St → List St
  | 0, s => [s]
  | n + 1, s => if s.status = 0 then s :: stsF c v n (advF c v s 0) else [s]
theorem stsF_done {c : List Ins} {v : Env} {s : St} (h : s.status ≠ 0) : ∀ n, stsF c v n s = [s]
  | 0 => rfl
  | n + 1 => by simp [stsF, h]
theorem stsF_len {c : List Ins} {v : Env} : ∀ (n : Nat) (s : St), 1 ≤ (stsF c v n s).length ∧ (stsF c v n s).length ≤ n + 1
  | 0, s => by simp [stsF]
  | n + 1, s => by
    unfold stsF
    split
    · have := stsF_len (c := c) (v := v) n (advF c v s 0)
      simp only [List.length_cons]; omega
    · simp
theorem stsF_last {c : List Ins} {v : Env} : ∀ (n : Nat) (s : St), (stsF c v n s)[(stsF c v n s).length - 1]? = some (itF c v n s)
  | 0, s => rfl
  | n + 1, s => by
    have h1 := stsF_len (c := c) (v := v) n (advF c v s 0)
    have h2 := stsF_last (c := c) (v := v) n (advF c v s 0)
    unfold stsF itF
    split
    · obtain ⟨k, hk⟩ : ∃ k, (stsF c v n (advF c v s 0)).length = k + 1 := ⟨(stsF c v n (advF c v s 0)).length - 1, by omega⟩
      rw [List.length_cons, hk, Nat.add_sub_cancel, List.getElem?_cons_succ]
      rw [hk, Nat.add_sub_cancel] at h2
      exact h2
    · rfl
theorem states_pure (c : List Ins) (v : Env) (f : Int) (hv : (verF c).2 = 0) (hf0 : 0 ≤ f) (hf1 : f ≤ 32768) : PureC E 39 [.psl .ins c false, envV v, .int false .i64 f] (.psl Th.sts (stsF c v (f.toNat + 1) (St.start f)) false) := by
  refine pure_of_call E_ok (callOk_of E_ok F9_ok 400) ?_
  rw [cond_states]
  simp only [bif_true, bif_false, bif_nt, bif_tf, bif_ft, beq_iff_eq, bne_iff_ne, beq_eq_false_iff_ne, bne_eq_false_iff_eq, decide_eq_true_eq, decide_eq_false_iff_not, Bool.or_eq_true, Bool.or_eq_false_iff, Bool.not_eq_true', Bool.not_eq_false', Bool.and_eq_true, Bool.and_true, Bool.true_and, Bool.and_eq_false_iff, beq_self_eq_true, mm2_max, mm2_min, ne_eq, and_true, true_and, Bool.true_eq_false, Bool.false_eq_true, false_or, or_false, true_implies, Int.ofNat_eq_natCast, not_true_eq_false, not_false_eq_true, Decidable.not_not, gt_iff_lt, ge_iff_le, List.take_length, Nat.zero_add]
  obtain ⟨D, hD⟩ := verF_safe hv
  refine ⟨fun x => (x.s.status = 0 → Good c D x.s ∧ x.s.fuel ≤ 32768 ∧ x.s.fuel < x.r) ∧ x.L.length + x.r ≤ 40000 ∧ ∃ P, x.L = P ++ [x.s] ∧ P ++ stsF c v (x.s.fuel.toNat + 1) x.s = stsF c v (f.toNat + 1) (St.start f),
    ⟨⟨St.start f, [St.start f], f.toNat + 1⟩, ⟨fun _ => ⟨good_start hD hf0, by show f ≤ 32768; omega, by show f < ((f.toNat + 1 : Nat) : Int); omega⟩, by show 1 + (f.toNat + 1) ≤ 40000; omega, [], rfl, rfl⟩, by simp [St.start]⟩, fun x hR => ⟨fun hs => ?_, fun hs => ?_⟩⟩
  · obtain ⟨hg, hb, P, hP, hit⟩ := hR
    obtain ⟨hg, hf, hr⟩ := hg hs
    have h0 := hg.fuel
    refine ⟨good_can hD hg hf, ⟨Nat.le_refl _, Nat.zero_le _, by omega⟩, ?_⟩
    have e1 : stsF c v (x.s.fuel.toNat + 1) x.s = x.s :: stsF c v x.s.fuel.toNat (advF c v x.s 0) := by simp [stsF, hs]
    rw [e1] at hit
    by_cases hz : x.s.fuel = 0
    · have ea : advF c v x.s 0 = { x.s with status := 220 } := adv_done hz
      have hst : (advF c v x.s 0).status ≠ 0 := by rw [ea]; show (220 : Int) ≠ 0; omega
      refine ⟨⟨advF c v x.s 0, x.L ++ [advF c v x.s 0], x.r - 1⟩, ⟨fun h => absurd h hst, by simp only [List.length_append, List.length_cons, List.length_nil]; omega, x.L, rfl, ?_⟩, by show x.r - 1 + 1 ≤ x.r; omega, by simp⟩
      show x.L ++ stsF c v _ (advF c v x.s 0) = _
      rw [stsF_done hst] at hit ⊢
      rw [hP, List.append_assoc]; exact hit
    · obtain ⟨p1, p2, p3, p4⟩ := adv_good (v := v) hD hg (by omega)
      refine ⟨⟨advF c v x.s 0, x.L ++ [advF c v x.s 0], x.r - 1⟩, ⟨fun h => ⟨(p1 h).1, by show (advF c v x.s 0).fuel ≤ 32768; omega, by show (advF c v x.s 0).fuel < ((x.r - 1 : Nat) : Int); omega⟩, by simp only [List.length_append, List.length_cons, List.length_nil]; omega, x.L, rfl, ?_⟩, by show x.r - 1 + 1 ≤ x.r; omega, by simp⟩
      show x.L ++ stsF c v ((advF c v x.s 0).fuel.toNat + 1) (advF c v x.s 0) = _
      rw [p2, show (x.s.fuel - 1).toNat + 1 = x.s.fuel.toNat by omega, hP, List.append_assoc]
      exact hit
  · obtain ⟨hg, hb, P, hP, hit⟩ := hR
    rw [stsF_done hs] at hit
    exact ⟨Nat.le_refl _, by rw [hP, hit]⟩
theorem rstep_pure (c : List Ins) (v : Env) (s : St) : PureC E 16 [.psl .ins c false, envV v, stV s] (.tup [stV (stepF c v s).1, .int false .i64 (stepF c v s).2]) := by
  refine pure_of_call E_ok (callOk_of E_ok F9_ok 400) ?_
  rw [cond_rstep]
  simp only [bif_true, bif_false, bif_nt, bif_tf, bif_ft, beq_iff_eq, bne_iff_ne, beq_eq_false_iff_ne, bne_eq_false_iff_eq, decide_eq_true_eq, decide_eq_false_iff_not, Bool.or_eq_true, Bool.or_eq_false_iff, Bool.not_eq_true', Bool.not_eq_false', Bool.and_eq_true, Bool.and_true, Bool.true_and, Bool.and_eq_false_iff, beq_self_eq_true, mm2_max, mm2_min, ne_eq, and_true, true_and, Bool.true_eq_false, Bool.false_eq_true, false_or, or_false, true_implies, Int.ofNat_eq_natCast, not_true_eq_false, not_false_eq_true, Decidable.not_not, gt_iff_lt, ge_iff_le]
  refine ⟨fun hs => ?_, fun hs => ⟨fun hv => ?_, fun hv => ?_⟩⟩
  · have hr : readyF c s 0 = 211 := by unfold readyF; rw [if_pos hs]
    unfold stepF; rw [hr]; simp [St.zero]
  · have hr : readyF c s 0 = (verF c).2 := by unfold readyF; rw [if_neg (by simpa using hs), if_pos hv]
    unfold stepF; rw [hr, if_pos hv]; simp [St.zero]
  have hr : readyF c s 0 = if s.pc < 0 ∨ c.length ≤ s.pc ∨ s.fuel < 0 ∨ 32768 < s.fuel ∨ s.clause ≠ 0 ∨ (0 : Int) < 0 ∨ 64 < (0 : Int) ∨ 64 - (0 : Int) < s.stack.length then 1 else 0 := by
    unfold readyF; rw [if_neg (by simpa using hs), if_neg (by simpa using hv)]
  have bad : (s.pc < 0 ∨ c.length ≤ s.pc ∨ s.fuel < 0 ∨ 32768 < s.fuel ∨ s.clause ≠ 0 ∨ 64 < (s.stack.length : Int)) → stepF c v s = (.zero, 1) := fun h => by
    rw [if_pos (by omega)] at hr
    unfold stepF; rw [hr]; simp
  refine ⟨fun h1 => ⟨fun h2 => ⟨fun h3 => ⟨fun h4 => ⟨fun h5 => ⟨fun h6 => ?_, fun h6 => ?_⟩, fun h5 => ?_⟩, fun h4 => ?_⟩, fun h3 => ?_⟩, fun h2 => ?_⟩, fun h1 => ?_⟩
  · rw [if_neg (by omega)] at hr
    obtain ⟨D, hD⟩ := verF_safe hv
    refine ⟨⟨hD.short, by omega, by omega, fun x hx => hD.formed _ _ hx, by omega, by omega, by omega, by omega, by omega⟩, ?_⟩
    unfold stepF; rw [hr]; simp
  all_goals rw [bad (by omega)]; simp [St.zero]
end Go.Proofs.YtcaomfbcchemnaaDoor
