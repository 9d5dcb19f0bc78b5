/- Chapter 21: Verify of the program, shown once for every heap. -/
import Derived.Test.YtcaomfbcchemnaaDoorTvE
namespace Go.Proofs.YtcaomfbcchemnaaDoor
open Go
set_option linter.unusedVariables false
set_option linter.unusedSimpArgs false
theorem rep_step {n k : Nat} (h1 : 1 ≤ k) (h2 : k < n) {D : List Int} (hD : D = List.replicate k (-1) ++ List.replicate (n - k) 0) :
    List.take k D ++ List.take (n - k) (List.take k D) ++ List.drop (k + min (List.take k D).length (n - k)) D = List.replicate (k + min k (n - k)) (-1) ++ List.replicate (n - (k + min k (n - k))) 0 := by
  subst hD
  have e1 : List.take k (List.replicate k (-1 : Int) ++ List.replicate (n - k) 0) = List.replicate k (-1) := List.take_left' (by simp)
  rw [e1, List.length_replicate, List.take_replicate]
  have e2 : List.drop (k + min k (n - k)) (List.replicate k (-1 : Int) ++ List.replicate (n - k) 0) = List.drop (min k (n - k)) (List.replicate (n - k) 0) := by
    rw [List.drop_append, List.length_replicate, List.drop_eq_nil_of_le (by simp), show k + min k (n - k) - k = min k (n - k) by omega, List.nil_append]
  rw [e2, List.drop_replicate, List.replicate_append_replicate, Nat.min_comm (n - k) k, show n - k - min k (n - k) = n - (k + min k (n - k)) by omega]
/-- a round of Verify: what it found so far -/
structure RV (c : List Ins) (x : LX) : Prop where
  kr : x.k + x.r = c.length
  len : x.D.length = c.length
  lo : ∀ d ∈ x.D, -1 ≤ d ∧ d ≤ x.k
  run : fromF c.length (c.drop x.k) x.k x.D x.m = fromF c.length c 0 (deps c) 0
/-- the loop over what can follow -/
structure RN (c : List Ins) (x : LX) (after : Int) (ns : List Int) (y : LX) : Prop where
  kr : y.k + y.r = ns.length
  len : y.D.length = c.length
  lo : ∀ d ∈ y.D, -1 ≤ d ∧ d ≤ x.k + 1
  run : setF c.length x.k after (ns.drop y.k) y.D = setF c.length x.k after ns x.D
theorem eff_bd (op : Int) : 0 ≤ (eff op).1 ∧ (eff op).1 ≤ 2 ∧ 0 ≤ (eff op).2 ∧ (eff op).2 ≤ 1 := by
  unfold eff
  repeat' split
  all_goals simp
theorem mem_set_bd {D : List Int} {j : Nat} {a lo hi : Int} (h : ∀ d ∈ D, lo ≤ d ∧ d ≤ hi) (h2 : lo ≤ a ∧ a ≤ hi) : ∀ d ∈ D.set j a, lo ≤ d ∧ d ≤ hi := by
  intro d hd
  rcases List.mem_or_eq_of_mem_set hd with h3 | h3
  · exact h d h3
  · subst h3; exact h2
theorem verify_pure (c : List Ins) : PureC E 9 [.psl .ins c false] (.tup [.int false .i64 (verF c).1, .int false .i64 (verF c).2]) := by
  refine pure_of_call E_ok (callOk_of E_ok F4_ok 400) ?_
  rw [cond_verify]
  have s1 : 4096 < c.length → verF c = (0, 2) := fun h => by unfold verF; rw [if_pos h]
  have s2 : c.length = 0 → verF c = (0, 200) := fun h => by unfold verF; rw [if_neg (by omega), if_pos (.inl h)]
  have s3 : c.length ≤ 4096 → c.all formedF = false → verF c = (0, 200) := fun h h2 => by unfold verF; rw [if_neg (by omega), if_pos (.inr h2)]
  have s4 : c.length ≤ 4096 → c.length ≠ 0 → c.all formedF = true → verF c = endF (fromF c.length c 0 (deps c) 0) := fun h h2 h3 => by unfold verF; rw [if_neg (by omega), if_neg (by simp [h2, h3])]
  generalize verF c = V at *
  simp only [bif_true, bif_false, bif_nt, bif_tf, bif_ft, beq_iff_eq, bne_iff_ne, beq_eq_false_iff_ne, bne_eq_false_iff_eq, decide_eq_true_eq, decide_eq_false_iff_not, Bool.or_eq_true, Bool.or_eq_false_iff, Bool.not_eq_true', Bool.not_eq_false', Bool.and_eq_true, Bool.and_true, Bool.true_and, Bool.and_eq_false_iff, beq_self_eq_true, mm2_max, mm2_min, ne_eq, and_true, true_and, Bool.true_eq_false, Bool.false_eq_true, false_or, or_false, true_implies, Int.ofNat_eq_natCast, not_true_eq_false, not_false_eq_true, Decidable.not_not, gt_iff_lt, ge_iff_le]
  refine ⟨fun h => ?_, fun h => ⟨fun h2 => ?_, fun h2 => ⟨by omega, fun h3 => ?_, fun h3 => ⟨fun h4 => by omega, fun h4 => ?_⟩⟩⟩⟩
  · rw [s1 (by omega)]; simp
  · rw [s2 (by omega)]; simp
  · rw [s3 (by omega) (by simpa using h3)]; simp
  have hn : c.length ≤ 4096 := by omega
  rw [s4 hn (by omega) h3]
  clear s1 s2 s3 s4 V h4 h
  have eU : wr .u64 (c.length : Int) = c.length := wr_u64 (by omega) (by omega)
  have eI : wr .i64 (c.length : Int) = c.length := wr64 (by omega) (by omega)
  simp only [eU, eI, Int.toNat_natCast, Nat.zero_add, Int.toNat_zero]
  refine ⟨by omega, ?_⟩
  refine ⟨fun b => b = false, ⟨fun h => by omega, fun _ => ⟨fun h => by omega, fun _ => rfl⟩⟩, fun h => by simp at h, fun _ => ?_⟩
  refine ⟨by omega, Int.le_refl _, by omega, by simp, ?_⟩
  refine ⟨fun x => 1 ≤ x.k ∧ x.k + x.r = c.length ∧ x.D = List.replicate x.k (-1) ++ List.replicate (c.length - x.k) 0, ⟨⟨1, c.length - 1, List.replicate 1 (-1) ++ List.replicate (c.length - 1) 0, 0⟩, ⟨Nat.le_refl _, by show 1 + (c.length - 1) = _; omega, rfl⟩, ?_⟩, fun x hx => ?_⟩
  · have e : min ([-1] : List Int).length c.length = 1 := by simp; omega
    rw [e]
    refine ⟨by simp, ?_⟩
    have e2 : List.take c.length [(-1 : Int)] = [-1] := List.take_of_length_le (by simp; omega)
    rw [e2]
    simp
  obtain ⟨hk1, hkr, hD⟩ := hx
  have hDl : x.D.length = c.length := by rw [hD]; simp; omega
  refine ⟨fun hlt => ⟨by omega, fun _ => ⟨by omega, by omega, by omega, ?_⟩, fun h => absurd hlt h⟩, fun hge => ?_⟩
  · have e := rep_step hk1 (by omega : x.k < c.length) hD
    have e3 : (List.take x.k x.D).length = x.k := by rw [List.length_take]; omega
    rw [e3] at e ⊢
    refine ⟨⟨x.k + min x.k (c.length - x.k), c.length - (x.k + min x.k (c.length - x.k)), _, 0⟩, ⟨by show 1 ≤ x.k + _; omega, by show x.k + min x.k (c.length - x.k) + (c.length - (x.k + min x.k (c.length - x.k))) = _; omega, rfl⟩, by show c.length - (x.k + min x.k (c.length - x.k)) + 1 ≤ x.r; omega, ?_, e⟩
    rw [wr64 (by omega) (by omega)]
    show _ = ((x.k + min x.k (c.length - x.k) : Nat) : Int)
    omega
  have hkn : x.k = c.length := by omega
  have hD : x.D = List.replicate c.length (-1) := by rw [hD, hkn, Nat.sub_self]; simp
  clear hk1 hkr hge
  refine ⟨by omega, by omega, by omega, fun z hz => ?_⟩
  rw [hD] at hDl ⊢
  clear hz hD hkn
  refine ⟨RV c, ⟨⟨0, c.length, deps c, 0⟩, ⟨by show 0 + c.length = _; omega, by simp [deps], ?_, by simp⟩, by simp [deps]⟩, fun x hR => ?_⟩
  · intro d hd
    rcases List.mem_or_eq_of_mem_set hd with h | h
    · rw [List.mem_replicate] at h; show -1 ≤ d ∧ d ≤ 0; omega
    · show -1 ≤ d ∧ d ≤ 0; omega
  have hlen := hR.len
  refine ⟨fun hlt => ⟨by omega, by omega, fun x2 hx2 => ⟨by omega, by omega, fun x3 hx3 => ?_⟩⟩, fun hge => ?_⟩
  · have hb := hR.lo x3 (List.mem_of_getElem? hx3)
    have he := eff_bd x2.op
    have hkr := hR.kr
    have hget : x.D.getD x.k 0 = x3 := by simp [List.getD_eq_getElem?_getD, hx3]
    have hdrop : c.drop x.k = x2 :: c.drop (x.k + 1) := by
      obtain ⟨h1, rfl⟩ := List.getElem?_eq_some_iff.1 hx2
      exact List.drop_eq_getElem_cons h1
    have hrun := hR.run
    rw [hdrop] at hrun
    simp only [fromF] at hrun
    have hfo : formedF x2 = true := List.all_eq_true.1 h3 x2 (List.mem_of_getElem? hx2)
    have eK : wr .i64 ((x.k : Int) + 1) = x.k + 1 := wr64 (by omega) (by omega)
    have eA : wr .i64 (wr .i64 (x3 - (eff x2.op).1) + (eff x2.op).2) = x3 - (eff x2.op).1 + (eff x2.op).2 := by
      have e0 : wr .i64 (x3 - (eff x2.op).1) = x3 - (eff x2.op).1 := wr64 (by omega) (by omega)
      rw [e0]; exact wr64 (by omega) (by omega)
    simp only [eK, eA, mm2_max]
    refine ⟨fun hneg => ?_, fun hneg => ?_⟩
    · have hsome : rndF c.length x.k x2 x.D x.m = some (x.D, x.m) := by unfold rndF; rw [hget, if_pos hneg]
      rw [hsome] at hrun
      exact ⟨⟨x.k + 1, x.r - 1, x.D, x.m⟩, ⟨by show x.k + 1 + (x.r - 1) = _; omega, hlen, fun d hd => by have := hR.lo d hd; show -1 ≤ d ∧ d ≤ ((x.k + 1 : Nat) : Int); omega, hrun⟩, by show x.r - 1 + 1 ≤ x.r; omega, by simp⟩
    refine ⟨fun b => (b = true ↔ (x3 < (eff x2.op).1 ∨ (x2.op = 15 ∧ x3 ≠ 1) ∨ (x2.op = 16 ∧ x3 ≠ 0))), ?_, fun hQ => ?_, fun hQ => ?_⟩
    · repeat' (first | (refine And.intro ?_ ?_) | (intro h))
      all_goals simp
      all_goals omega
    · have hQ := hQ.1 rfl
      have hnone : rndF c.length x.k x2 x.D x.m = none := by unfold rndF; rw [hget, if_neg hneg, if_pos hQ]
      rw [hnone] at hrun
      rw [← hrun]
      simp [endF]
    · have hbad : ¬ (x3 < (eff x2.op).1 ∨ (x2.op = 15 ∧ x3 ≠ 1) ∨ (x2.op = 16 ∧ x3 ≠ 0)) := fun h => absurd (hQ.2 h) (by simp)
      clear hQ
      refine ⟨fun b => (b = true ↔ (x2.op = 13 ∨ x2.op = 14)), ?_, fun hQ => ?_, fun hQ => ?_⟩
      · repeat' (first | (refine And.intro ?_ ?_) | (intro h))
        all_goals simp
        all_goals omega
      · have hQ := hQ.1 rfl
        refine ⟨fun b => (b = true ↔ (x2.op ≠ 14 ∧ x2.op ≠ 15 ∧ x2.op ≠ 16)), ?_, fun hQ2 => ?_, fun hQ2 => ?_⟩
        · repeat' (first | (refine And.intro ?_ ?_) | (intro h))
          all_goals simp
          all_goals omega
        · have hQ2 := hQ2.1 rfl
          have hnx : nextF x.k x2 = [x2.n, (x.k : Int) + 1] := by unfold nextF; rw [if_neg (by omega), if_neg (by omega), if_pos (by omega)]
          simp only [List.length_cons, List.length_nil, Nat.zero_add, List.take_succ_cons, List.take_zero, List.cons_append, List.nil_append]
          refine ⟨by omega, ?_⟩
          refine ⟨RN c x (x3 - (eff x2.op).1 + (eff x2.op).2) [x2.n, (x.k : Int) + 1], ⟨⟨0, 2, x.D, 0⟩, ⟨rfl, hR.len, fun d hd => ⟨(hR.lo d hd).1, by have := (hR.lo d hd).2; omega⟩, rfl⟩, by simp⟩, fun y hy => ⟨fun hlt => ?_, fun hge => ?_⟩⟩
          · have hyk : y.k < ([x2.n, (x.k : Int) + 1]).length := by simp only [List.length_cons, List.length_nil]; omega
            refine ⟨by omega, by first | omega | (simp only [List.length_cons, List.length_nil]; omega), fun n hy5 => ?_⟩
            have hns : ([x2.n, (x.k : Int) + 1]).drop y.k = n :: ([x2.n, (x.k : Int) + 1]).drop (y.k + 1) := by
              obtain ⟨h1, rfl⟩ := List.getElem?_eq_some_iff.1 hy5
              exact List.drop_eq_getElem_cons h1
            have hset := hy.run
            rw [hns] at hset
            generalize hS : setF c.length x.k (x3 - (eff x2.op).1 + (eff x2.op).2) [x2.n, (x.k : Int) + 1] x.D = SF at hset
            simp only [setF] at hset
            refine ⟨fun b => (b = true ↔ (n ≤ x.k ∨ (c.length : Int) ≤ n ∨ (0 ≤ y.D.getD n.toNat 0 ∧ y.D.getD n.toNat 0 ≠ x3 - (eff x2.op).1 + (eff x2.op).2))), ?_, fun hQ => ?_, fun hQ => ?_⟩
            · refine ⟨fun h => by simp [h], fun h => ⟨fun h' => by simp [h'], fun h' => ⟨by omega, by rw [hy.len]; omega, fun z hz => ?_⟩⟩⟩
              have hg : y.D.getD n.toNat 0 = z := by simp [List.getD_eq_getElem?_getD, hz]
              rw [hg]
              refine ⟨fun h0 => ⟨by omega, by rw [hy.len]; omega, fun z2 hz2 => ?_⟩, fun h0 => by simp; omega⟩
              rw [hz] at hz2; cases hz2
              exact ⟨fun h1 => by simp; omega, fun h1 => by simp; omega⟩
            · have hQ := hQ.1 rfl
              rw [if_pos hQ] at hset
              have hnone : rndF c.length x.k x2 x.D x.m = none := by
                unfold rndF
                rw [hget, if_neg hneg, if_neg hbad, hnx, hS, ← hset]
              rw [hnone] at hrun
              rw [← hrun]
              simp [endF]
            · have hQ : ¬ (n ≤ x.k ∨ (c.length : Int) ≤ n ∨ (0 ≤ y.D.getD n.toNat 0 ∧ y.D.getD n.toNat 0 ≠ x3 - (eff x2.op).1 + (eff x2.op).2)) := fun h => by simp at hQ; exact absurd h (by simpa using hQ)
              rw [if_neg hQ] at hset
              refine ⟨by omega, Nat.zero_le _, by rw [hy.len]; omega, fun z hz => ?_⟩
              refine ⟨⟨y.k + 1, y.r - 1, y.D.set n.toNat (x3 - (eff x2.op).1 + (eff x2.op).2), 0⟩, ⟨by have := hy.kr; show y.k + 1 + (y.r - 1) = _; omega, by simp [hy.len], mem_set_bd hy.lo (by omega), hset.trans hS.symm⟩, by have := hy.kr; show y.r - 1 + 1 ≤ y.r; omega, ?_⟩
              rw [wr64 (by omega) (by omega)]
              simp
          · have hyk : ([x2.n, (x.k : Int) + 1]).drop y.k = [] := List.drop_eq_nil_of_le (by simp only [List.length_cons, List.length_nil]; omega)
            have hset := hy.run
            rw [hyk] at hset
            generalize hS : setF c.length x.k (x3 - (eff x2.op).1 + (eff x2.op).2) [x2.n, (x.k : Int) + 1] x.D = SF at hset
            simp only [setF] at hset
            have hsome : rndF c.length x.k x2 x.D x.m = some (y.D, max (max x.m x3) (x3 - (eff x2.op).1 + (eff x2.op).2)) := by
              unfold rndF
              rw [hget, if_neg hneg, if_neg hbad, hnx, hS, ← hset]
            rw [hsome] at hrun
            refine ⟨⟨x.k + 1, x.r - 1, y.D, _⟩, ⟨by have := hR.kr; show x.k + 1 + (x.r - 1) = _; omega, hy.len, fun d hd => by have := hy.lo d hd; show -1 ≤ d ∧ d ≤ ((x.k + 1 : Nat) : Int); omega, hrun⟩, by have := hR.kr; show x.r - 1 + 1 ≤ x.r; omega, ?_⟩
            simp
        · have hQ2 : ¬ (x2.op ≠ 14 ∧ x2.op ≠ 15 ∧ x2.op ≠ 16) := fun h => absurd (hQ2.2 h) (by simp)
          have hnx : nextF x.k x2 = [x2.n] := by unfold nextF; rw [if_neg (by omega), if_pos (by omega)]
          simp only [List.length_cons, List.length_nil, Nat.zero_add]
          refine ⟨RN c x (x3 - (eff x2.op).1 + (eff x2.op).2) [x2.n], ⟨⟨0, 1, x.D, 0⟩, ⟨rfl, hR.len, fun d hd => ⟨(hR.lo d hd).1, by have := (hR.lo d hd).2; omega⟩, rfl⟩, by simp⟩, fun y hy => ⟨fun hlt => ?_, fun hge => ?_⟩⟩
          · have hyk : y.k < ([x2.n]).length := by simp only [List.length_cons, List.length_nil]; omega
            refine ⟨by omega, by first | omega | (simp only [List.length_cons, List.length_nil]; omega), fun n hy5 => ?_⟩
            have hns : ([x2.n]).drop y.k = n :: ([x2.n]).drop (y.k + 1) := by
              obtain ⟨h1, rfl⟩ := List.getElem?_eq_some_iff.1 hy5
              exact List.drop_eq_getElem_cons h1
            have hset := hy.run
            rw [hns] at hset
            generalize hS : setF c.length x.k (x3 - (eff x2.op).1 + (eff x2.op).2) [x2.n] x.D = SF at hset
            simp only [setF] at hset
            refine ⟨fun b => (b = true ↔ (n ≤ x.k ∨ (c.length : Int) ≤ n ∨ (0 ≤ y.D.getD n.toNat 0 ∧ y.D.getD n.toNat 0 ≠ x3 - (eff x2.op).1 + (eff x2.op).2))), ?_, fun hQ => ?_, fun hQ => ?_⟩
            · refine ⟨fun h => by simp [h], fun h => ⟨fun h' => by simp [h'], fun h' => ⟨by omega, by rw [hy.len]; omega, fun z hz => ?_⟩⟩⟩
              have hg : y.D.getD n.toNat 0 = z := by simp [List.getD_eq_getElem?_getD, hz]
              rw [hg]
              refine ⟨fun h0 => ⟨by omega, by rw [hy.len]; omega, fun z2 hz2 => ?_⟩, fun h0 => by simp; omega⟩
              rw [hz] at hz2; cases hz2
              exact ⟨fun h1 => by simp; omega, fun h1 => by simp; omega⟩
            · have hQ := hQ.1 rfl
              rw [if_pos hQ] at hset
              have hnone : rndF c.length x.k x2 x.D x.m = none := by
                unfold rndF
                rw [hget, if_neg hneg, if_neg hbad, hnx, hS, ← hset]
              rw [hnone] at hrun
              rw [← hrun]
              simp [endF]
            · have hQ : ¬ (n ≤ x.k ∨ (c.length : Int) ≤ n ∨ (0 ≤ y.D.getD n.toNat 0 ∧ y.D.getD n.toNat 0 ≠ x3 - (eff x2.op).1 + (eff x2.op).2)) := fun h => by simp at hQ; exact absurd h (by simpa using hQ)
              rw [if_neg hQ] at hset
              refine ⟨by omega, Nat.zero_le _, by rw [hy.len]; omega, fun z hz => ?_⟩
              refine ⟨⟨y.k + 1, y.r - 1, y.D.set n.toNat (x3 - (eff x2.op).1 + (eff x2.op).2), 0⟩, ⟨by have := hy.kr; show y.k + 1 + (y.r - 1) = _; omega, by simp [hy.len], mem_set_bd hy.lo (by omega), hset.trans hS.symm⟩, by have := hy.kr; show y.r - 1 + 1 ≤ y.r; omega, ?_⟩
              rw [wr64 (by omega) (by omega)]
              simp
          · have hyk : ([x2.n]).drop y.k = [] := List.drop_eq_nil_of_le (by simp only [List.length_cons, List.length_nil]; omega)
            have hset := hy.run
            rw [hyk] at hset
            generalize hS : setF c.length x.k (x3 - (eff x2.op).1 + (eff x2.op).2) [x2.n] x.D = SF at hset
            simp only [setF] at hset
            have hsome : rndF c.length x.k x2 x.D x.m = some (y.D, max (max x.m x3) (x3 - (eff x2.op).1 + (eff x2.op).2)) := by
              unfold rndF
              rw [hget, if_neg hneg, if_neg hbad, hnx, hS, ← hset]
            rw [hsome] at hrun
            refine ⟨⟨x.k + 1, x.r - 1, y.D, _⟩, ⟨by have := hR.kr; show x.k + 1 + (x.r - 1) = _; omega, hy.len, fun d hd => by have := hy.lo d hd; show -1 ≤ d ∧ d ≤ ((x.k + 1 : Nat) : Int); omega, hrun⟩, by have := hR.kr; show x.r - 1 + 1 ≤ x.r; omega, ?_⟩
            simp
      · have hQ : ¬ (x2.op = 13 ∨ x2.op = 14) := fun h => absurd (hQ.2 h) (by simp)
        refine ⟨fun b => (b = true ↔ (x2.op ≠ 14 ∧ x2.op ≠ 15 ∧ x2.op ≠ 16)), ?_, fun hQ2 => ?_, fun hQ2 => ?_⟩
        · repeat' (first | (refine And.intro ?_ ?_) | (intro h))
          all_goals simp
          all_goals omega
        · have hQ2 := hQ2.1 rfl
          have hnx : nextF x.k x2 = [(x.k : Int) + 1] := by unfold nextF; rw [if_neg (by omega), if_neg (by omega), if_neg (by omega)]
          simp only [List.length_cons, List.length_nil, Nat.zero_add]
          refine ⟨RN c x (x3 - (eff x2.op).1 + (eff x2.op).2) [(x.k : Int) + 1], ⟨⟨0, 1, x.D, 0⟩, ⟨rfl, hR.len, fun d hd => ⟨(hR.lo d hd).1, by have := (hR.lo d hd).2; omega⟩, rfl⟩, by simp⟩, fun y hy => ⟨fun hlt => ?_, fun hge => ?_⟩⟩
          · have hyk : y.k < ([(x.k : Int) + 1]).length := by simp only [List.length_cons, List.length_nil]; omega
            refine ⟨by omega, by first | omega | (simp only [List.length_cons, List.length_nil]; omega), fun n hy5 => ?_⟩
            have hns : ([(x.k : Int) + 1]).drop y.k = n :: ([(x.k : Int) + 1]).drop (y.k + 1) := by
              obtain ⟨h1, rfl⟩ := List.getElem?_eq_some_iff.1 hy5
              exact List.drop_eq_getElem_cons h1
            have hset := hy.run
            rw [hns] at hset
            generalize hS : setF c.length x.k (x3 - (eff x2.op).1 + (eff x2.op).2) [(x.k : Int) + 1] x.D = SF at hset
            simp only [setF] at hset
            refine ⟨fun b => (b = true ↔ (n ≤ x.k ∨ (c.length : Int) ≤ n ∨ (0 ≤ y.D.getD n.toNat 0 ∧ y.D.getD n.toNat 0 ≠ x3 - (eff x2.op).1 + (eff x2.op).2))), ?_, fun hQ => ?_, fun hQ => ?_⟩
            · refine ⟨fun h => by simp [h], fun h => ⟨fun h' => by simp [h'], fun h' => ⟨by omega, by rw [hy.len]; omega, fun z hz => ?_⟩⟩⟩
              have hg : y.D.getD n.toNat 0 = z := by simp [List.getD_eq_getElem?_getD, hz]
              rw [hg]
              refine ⟨fun h0 => ⟨by omega, by rw [hy.len]; omega, fun z2 hz2 => ?_⟩, fun h0 => by simp; omega⟩
              rw [hz] at hz2; cases hz2
              exact ⟨fun h1 => by simp; omega, fun h1 => by simp; omega⟩
            · have hQ := hQ.1 rfl
              rw [if_pos hQ] at hset
              have hnone : rndF c.length x.k x2 x.D x.m = none := by
                unfold rndF
                rw [hget, if_neg hneg, if_neg hbad, hnx, hS, ← hset]
              rw [hnone] at hrun
              rw [← hrun]
              simp [endF]
            · have hQ : ¬ (n ≤ x.k ∨ (c.length : Int) ≤ n ∨ (0 ≤ y.D.getD n.toNat 0 ∧ y.D.getD n.toNat 0 ≠ x3 - (eff x2.op).1 + (eff x2.op).2)) := fun h => by simp at hQ; exact absurd h (by simpa using hQ)
              rw [if_neg hQ] at hset
              refine ⟨by omega, Nat.zero_le _, by rw [hy.len]; omega, fun z hz => ?_⟩
              refine ⟨⟨y.k + 1, y.r - 1, y.D.set n.toNat (x3 - (eff x2.op).1 + (eff x2.op).2), 0⟩, ⟨by have := hy.kr; show y.k + 1 + (y.r - 1) = _; omega, by simp [hy.len], mem_set_bd hy.lo (by omega), hset.trans hS.symm⟩, by have := hy.kr; show y.r - 1 + 1 ≤ y.r; omega, ?_⟩
              rw [wr64 (by omega) (by omega)]
              simp
          · have hyk : ([(x.k : Int) + 1]).drop y.k = [] := List.drop_eq_nil_of_le (by simp only [List.length_cons, List.length_nil]; omega)
            have hset := hy.run
            rw [hyk] at hset
            generalize hS : setF c.length x.k (x3 - (eff x2.op).1 + (eff x2.op).2) [(x.k : Int) + 1] x.D = SF at hset
            simp only [setF] at hset
            have hsome : rndF c.length x.k x2 x.D x.m = some (y.D, max (max x.m x3) (x3 - (eff x2.op).1 + (eff x2.op).2)) := by
              unfold rndF
              rw [hget, if_neg hneg, if_neg hbad, hnx, hS, ← hset]
            rw [hsome] at hrun
            refine ⟨⟨x.k + 1, x.r - 1, y.D, _⟩, ⟨by have := hR.kr; show x.k + 1 + (x.r - 1) = _; omega, hy.len, fun d hd => by have := hy.lo d hd; show -1 ≤ d ∧ d ≤ ((x.k + 1 : Nat) : Int); omega, hrun⟩, by have := hR.kr; show x.r - 1 + 1 ≤ x.r; omega, ?_⟩
            simp
        · have hQ2 : ¬ (x2.op ≠ 14 ∧ x2.op ≠ 15 ∧ x2.op ≠ 16) := fun h => absurd (hQ2.2 h) (by simp)
          have hnx : nextF x.k x2 = [] := by unfold nextF; rw [if_pos (by omega)]
          have hsome : rndF c.length x.k x2 x.D x.m = some (x.D, max (max x.m x3) (x3 - (eff x2.op).1 + (eff x2.op).2)) := by
            unfold rndF
            rw [hget, if_neg hneg, if_neg hbad, hnx]
            rfl
          rw [hsome] at hrun
          refine ⟨fun y => y.D = x.D, ⟨⟨0, 0, x.D, 0⟩, rfl, by simp⟩, fun y hy => ⟨fun h => by omega, fun _ => ?_⟩⟩
          refine ⟨⟨x.k + 1, x.r - 1, x.D, _⟩, ⟨by show x.k + 1 + (x.r - 1) = _; omega, hlen, fun d hd => by have := hR.lo d hd; show -1 ≤ d ∧ d ≤ ((x.k + 1 : Nat) : Int); omega, hrun⟩, by show x.r - 1 + 1 ≤ x.r; omega, ?_⟩
          simp [hy]
  · have hrun := hR.run
    rw [List.drop_eq_nil_of_le (by omega)] at hrun
    simp only [fromF] at hrun
    rw [← hrun]
    refine ⟨fun h => ?_, fun h => ?_⟩
    · simp [endF, h]
    · simp [endF, h]
end Go.Proofs.YtcaomfbcchemnaaDoor
