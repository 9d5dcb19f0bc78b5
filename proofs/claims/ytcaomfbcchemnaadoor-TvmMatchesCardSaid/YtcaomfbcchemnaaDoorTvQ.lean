/- Chapter 21: a step of the specification's machine. -/
import Derived.Test.YtcaomfbcchemnaaDoorTvH
namespace Go.Proofs.YtcaomfbcchemnaaDoor
open Go
set_option linter.unusedVariables false
set_option linter.unusedSimpArgs false
theorem app_ok {X : List Int} {w : Int} {zs : List Int} {P1 P2 P3 P4 : Prop} (h1 : P1) (h2 : P2) (h3 : P3) (h4 : P4) (hl : X.length ≤ 64) (hz : X ++ [w] = zs) :
    (X = [] → P1 ∧ P2 ∧ P3 ∧ P4 ∧ 0 + 1 ≤ ([w] : List Int).length ∧ List.take (0 + 1) [w] = zs) ∧
    (¬X = [] → (0 + 1 ≤ X.length ∧ X.length * 8 ≤ 140737488355328) ∧ (X.length ≤ X.length ∧ 0 ≤ X.length ∧ (X.length + 1) * 8 ≤ 140737488355328) ∧ P1 ∧ P2 ∧ P3 ∧ P4 ∧ X.length + 1 ≤ (X ++ [w]).length ∧ List.take (X.length + 1) (X ++ [w]) = zs) := by
  refine ⟨fun hX => ?_, fun hX => ?_⟩
  · subst hX
    exact ⟨h1, h2, h3, h4, by simp, by rw [← hz]; rfl⟩
  · have : 0 < X.length := List.length_pos_iff.2 hX
    exact ⟨⟨by omega, by omega⟩, ⟨Nat.le_refl _, Nat.zero_le _, by omega⟩, h1, h2, h3, h4, by simp, by rw [List.take_of_length_le (by simp)]; exact hz⟩
theorem radvance_pure (c : List Ins) (v : Env) (s : St) (below : Int) (h : CanAdv c s below) : PureC E 38 [.psl .ins c false, envV v, stV s, .int false .i64 below] (stV (advF c v s below)) := by
  obtain ⟨hc, h0, h1, hf, f0, f1, b0, b1, hs⟩ := h
  refine pure_of_call E_ok (callOk_of E_ok F5_ok 400) ?_
  rw [cond_radvance]
  obtain ⟨x, hx⟩ : ∃ x, c[s.pc.toNat]? = some x := ⟨c[s.pc.toNat]'(by omega), by simp⟩
  have hfx := hf x hx
  have hop := formed_op hfx
  have ef : wr .i64 (s.fuel - 1) = s.fuel - 1 := wr64 (by omega) (by omega)
  have ep : wr .i64 (s.pc + 1) = s.pc + 1 := wr64 (by omega) (by omega)
  have eb : wr .i64 (below + (s.stack.length : Int)) = below + s.stack.length := wr64 (by omega) (by omega)
  have e1 : wr .i64 ((s.stack.length : Int) - 1) = s.stack.length - 1 := wr64 (by omega) (by omega)
  have e2 : wr .i64 ((s.stack.length : Int) - 2) = s.stack.length - 2 := wr64 (by omega) (by omega)
  have hw10 : ∀ a b, wr .i64 (10 + (binF x.op a b).2) = 10 + (binF x.op a b).2 := fun a b => by
    have := binF_err x.op a b
    rw [wr64 (by omega) (by omega)]
  simp only [hx, Option.some.injEq, forall_eq', ef, ep, eb, e1, e2, hw10, Int.toNat_natCast, List.take_length, List.nil_append, Nat.zero_add, bif_true, bif_false, bif_nt, bif_tf, bif_ft, beq_iff_eq, bne_iff_ne, beq_eq_false_iff_ne, bne_eq_false_iff_eq, decide_eq_true_eq, decide_eq_false_iff_not, Bool.or_eq_true, Bool.or_eq_false_iff, Bool.not_eq_true', Bool.not_eq_false', Bool.and_eq_true, Bool.and_true, Bool.true_and, Bool.and_eq_false_iff, beq_self_eq_true, mm2_max, mm2_min, ne_eq, and_true, true_and, Bool.true_eq_false, Bool.false_eq_true, false_or, or_false, true_implies, Int.ofNat_eq_natCast, not_true_eq_false, not_false_eq_true, Decidable.not_not, ge_iff_le, gt_iff_lt]
  refine ⟨fun h => by unfold advF; rw [if_pos h]; simp, fun h => ⟨by omega, by omega, fun hn => ?_, fun hn => ?_⟩⟩
  all_goals rw [advF_at hx h]
  · have hE : execF x v { s with fuel := s.fuel - 1 } below = ({ s with fuel := s.fuel - 1 }, 200) := by unfold execF; rw [if_pos hn]
    rw [hE]; simp [advR]
  clear hx hf ef ep eb e1 e2 hw10
  obtain ⟨s1, hs1⟩ : ∃ s1 : St, s1 = { s with fuel := s.fuel - 1 } := ⟨_, rfl⟩
  have q1 : s1.pc = s.pc := by rw [hs1]
  have q2 : s1.fuel = s.fuel - 1 := by rw [hs1]
  have q3 : s1.status = s.status := by rw [hs1]
  have q4 : s1.clause = s.clause := by rw [hs1]
  have q5 : s1.stack = s.stack := by rw [hs1]
  rw [← hs1]
  have hn : ¬ ((s1.stack.length : Int) < needsF x.op) := by rw [q5]; exact hn
  clear hs1
  obtain ⟨op, n, m⟩ := x
  dsimp only at *
  have e1n : Int.toNat ((s.stack.length : Int) - 1) = s.stack.length - 1 := by omega
  have e2n : Int.toNat ((s.stack.length : Int) - 2) = s.stack.length - 2 := by omega
  refine ⟨fun ho => ?_, fun o1 => ⟨fun ho => ?_, fun o2 => ⟨fun ho => ?_, fun o12 => ⟨fun ho => ?_, fun o13 => ⟨fun ho => ?_, fun o14 => ⟨fun ho => ?_, fun o15 => ⟨fun ho => ?_, fun o16 => ?_⟩⟩⟩⟩⟩⟩⟩
  · subst ho
    refine ⟨fun h64 => ?_, fun h64 => ⟨fun h => absurd h (by omega), fun _ => ?_⟩⟩
    · have hE : execF ⟨1, n, m⟩ v s1 below = (s1, 200) := by unfold execF; rw [if_neg hn]; simp [q5, h64]
      rw [hE, advR_err _ _ (by omega)]; simp [q1, q2, q3, q4, q5]
    · have hE : execF ⟨1, n, m⟩ v s1 below = (s1.pops 0 [n], 0) := by unfold execF; rw [if_neg hn]; simp [q5, h64]
      rw [hE, advR_ok]
      exact app_ok (by simp [St.pops, q1]) (by simp [St.pops, q2]) (by simp [St.pops, q3]) (by simp [St.pops, q4]) (by omega) (by simp [St.pops, q5])
  · subst ho
    refine ⟨fun h64 => ?_, fun h64 => ⟨fun _ => ?_, fun h => absurd rfl h⟩⟩
    · have hE : execF ⟨2, n, m⟩ v s1 below = (s1, 200) := by unfold execF; rw [if_neg hn]; simp [q5, h64]
      rw [hE, advR_err _ _ (by omega)]; simp [q1, q2, q3, q4, q5]
    have hn15 : 0 ≤ n ∧ n ≤ 15 := by simp [formedF] at hfx; omega
    have hbit : bitsOp BinOp.and IntKind.i64 (Int.fdiv v.has (2 ^ min n.toNat IntKind.i64.bits)) 1 = (v.has / 2 ^ n.toNat) % 2 := by
      have e : min n.toNat IntKind.i64.bits = n.toNat := by show min n.toNat 64 = _; omega
      rw [e, Int.fdiv_eq_ediv_of_nonneg _ (Int.le_of_lt (Int.pow_pos (by omega)))]
      exact and_one _
    rw [hbit]
    refine ⟨by omega, fun hb => ?_, fun hb' => ⟨by omega, by omega, ?_⟩⟩
    · have hE : execF ⟨2, n, m⟩ v s1 below = (s1, 181) := by unfold execF; rw [if_neg hn]; simp [q5, h64, hb]
      rw [hE, advR_err _ _ (by omega)]; simp [q1, q2, q3, q4, q5]
    have key : ∀ w : Int, v.v.getD n.toNat 0 = w → ∃ Q : Bool → Prop, ((w < -9007199254740992 → Q true) ∧ (¬w < -9007199254740992 → (9007199254740992 < w → Q true) ∧ (¬9007199254740992 < w → Q false))) ∧
        (Q true → s.pc = (advR s1 (execF ⟨2, n, m⟩ v s1 below)).pc ∧ s.fuel - 1 = (advR s1 (execF ⟨2, n, m⟩ v s1 below)).fuel ∧ 13 = (advR s1 (execF ⟨2, n, m⟩ v s1 below)).status ∧ s.clause = (advR s1 (execF ⟨2, n, m⟩ v s1 below)).clause ∧ s.stack = (advR s1 (execF ⟨2, n, m⟩ v s1 below)).stack ∧ (False → False)) ∧
        (Q false → (s.stack = [] → s.pc + 1 = (advR s1 (execF ⟨2, n, m⟩ v s1 below)).pc ∧ s.fuel - 1 = (advR s1 (execF ⟨2, n, m⟩ v s1 below)).fuel ∧ s.status = (advR s1 (execF ⟨2, n, m⟩ v s1 below)).status ∧ s.clause = (advR s1 (execF ⟨2, n, m⟩ v s1 below)).clause ∧ 0 + 1 ≤ ([w] : List Int).length ∧ List.take (0 + 1) [w] = (advR s1 (execF ⟨2, n, m⟩ v s1 below)).stack) ∧
          (¬s.stack = [] → (0 + 1 ≤ s.stack.length ∧ s.stack.length * 8 ≤ 140737488355328) ∧ (s.stack.length ≤ s.stack.length ∧ 0 ≤ s.stack.length ∧ (s.stack.length + 1) * 8 ≤ 140737488355328) ∧ s.pc + 1 = (advR s1 (execF ⟨2, n, m⟩ v s1 below)).pc ∧ s.fuel - 1 = (advR s1 (execF ⟨2, n, m⟩ v s1 below)).fuel ∧ s.status = (advR s1 (execF ⟨2, n, m⟩ v s1 below)).status ∧ s.clause = (advR s1 (execF ⟨2, n, m⟩ v s1 below)).clause ∧
            s.stack.length + 1 ≤ (s.stack ++ [w]).length ∧ List.take (s.stack.length + 1) (s.stack ++ [w]) = (advR s1 (execF ⟨2, n, m⟩ v s1 below)).stack)) := by
      intro w hw
      refine ⟨fun b => (b = true ↔ (w < -9007199254740992 ∨ 9007199254740992 < w)), ⟨fun h => by simp [h], fun h => ⟨fun h' => by simp [h'], fun h' => by simp; omega⟩⟩, fun hQ => ?_, fun hQ => ?_⟩
      · have hQ := hQ.1 rfl
        have hE : execF ⟨2, n, m⟩ v s1 below = (s1, 3) := by unfold execF; rw [if_neg hn]; dsimp only; rw [if_neg (by omega), if_pos rfl, if_neg (by rw [q5]; exact h64), if_neg hb', hw, if_pos hQ]
        rw [hE, advR_err _ _ (by omega)]; simp [q1, q2, q3, q4, q5]
      · have hQ : ¬ (w < -9007199254740992 ∨ 9007199254740992 < w) := fun h => absurd (hQ.2 h) (by simp)
        have hE : execF ⟨2, n, m⟩ v s1 below = (s1.pops 0 [w], 0) := by unfold execF; rw [if_neg hn]; dsimp only; rw [if_neg (by omega), if_pos rfl, if_neg (by rw [q5]; exact h64), if_neg hb', hw, if_neg hQ]
        rw [hE, advR_ok]
        exact app_ok (by simp [St.pops, q1]) (by simp [St.pops, q2]) (by simp [St.pops, q3]) (by simp [St.pops, q4]) (by omega) (by simp [St.pops, q5])
    exact ⟨fun hk => key _ (by rw [show n = 0 by omega]; rfl), fun _ => ⟨fun hk => key _ (by rw [show n = 1 by omega]; rfl), fun _ => ⟨fun hk => key _ (by rw [show n = 2 by omega]; rfl), fun _ => ⟨fun hk => key _ (by rw [show n = 3 by omega]; rfl), fun _ => ⟨fun hk => key _ (by rw [show n = 4 by omega]; rfl), fun _ => ⟨fun hk => key _ (by rw [show n = 5 by omega]; rfl), fun _ => ⟨fun hk => key _ (by rw [show n = 6 by omega]; rfl), fun _ => ⟨fun hk => key _ (by rw [show n = 7 by omega]; rfl), fun _ => ⟨fun hk => key _ (by rw [show n = 8 by omega]; rfl), fun _ => ⟨fun hk => key _ (by rw [show n = 9 by omega]; rfl), fun _ => ⟨fun hk => key _ (by rw [show n = 10 by omega]; rfl), fun _ => ⟨fun hk => key _ (by rw [show n = 11 by omega]; rfl), fun _ => ⟨fun hk => key _ (by rw [show n = 12 by omega]; rfl), fun _ => ⟨fun hk => key _ (by rw [show n = 13 by omega]; rfl), fun _ => ⟨fun hk => key _ (by rw [show n = 14 by omega]; rfl), fun _ => ⟨fun hk => key _ (by rw [show n = 15 by omega]; rfl), fun _ => trivial⟩⟩⟩⟩⟩⟩⟩⟩⟩⟩⟩⟩⟩⟩⟩⟩
  · subst ho
    have hl : 1 ≤ (s.stack.length : Int) := by rw [q5] at hn; simp [needsF] at hn; omega
    refine ⟨by omega, by omega, fun a ha => ?_⟩
    have t0 : topF s1.stack 0 = a := get_top (by rw [q5]; exact ha) (by rw [q5]; omega)
    have hE : execF ⟨12, n, m⟩ v s1 below = (s1.pops 1 [if n ≤ a ∧ a ≤ m then 1 else 0], 0) := by unfold execF; rw [if_neg hn]; simp [t0]
    rw [hE, advR_ok, e1n] at *
    refine ⟨fun hna => ⟨by omega, by omega, fun b hb => ?_⟩, fun hna => ?_⟩
    · rw [ha] at hb; cases hb
      refine ⟨fun hm => ?_, fun hm => ?_⟩
      all_goals
        refine ⟨⟨by omega, by omega⟩, app_ok (by simp [St.pops, q1]) (by simp [St.pops, q2]) (by simp [St.pops, q3]) (by simp [St.pops, q4]) (by rw [List.length_take]; omega) (by simp [St.pops, q5, hna, hm])⟩
    · refine ⟨⟨by omega, by omega⟩, app_ok (by simp [St.pops, q1]) (by simp [St.pops, q2]) (by simp [St.pops, q3]) (by simp [St.pops, q4]) (by rw [List.length_take]; omega) (by simp [St.pops, q5, hna])⟩
  · subst ho
    have hl : 1 ≤ (s.stack.length : Int) := by rw [q5] at hn; simp [needsF] at hn; omega
    refine ⟨by omega, by omega, fun a ha => ⟨⟨by omega, by omega⟩, ?_⟩⟩
    have t0 : topF s1.stack 0 = a := get_top (by rw [q5]; exact ha) (by rw [q5]; omega)
    have hE : execF ⟨13, n, m⟩ v s1 below = ({ s1.pops 1 [] with pc := if a = 0 then n else s1.pc + 1 }, 0) := by unfold execF; rw [if_neg hn]; simp [t0]
    rw [hE, advR_ok, e1n]
    refine ⟨fun hz => ?_, fun hz => ?_⟩
    all_goals simp [St.pops, q1, q2, q3, q4, q5, hz]
  · subst ho
    have hE : execF ⟨14, n, m⟩ v s1 below = ({ s1 with pc := n }, 0) := by unfold execF; rw [if_neg hn]; simp
    rw [hE, advR_ok]
    simp [q1, q2, q3, q4, q5]
  · subst ho
    have hE : execF ⟨15, n, m⟩ v s1 below = ({ s1 with status := 1, clause := n }, 0) := by unfold execF; rw [if_neg hn]; simp
    rw [hE, advR_ok]
    simp [q1, q2, q3, q4, q5]
  · subst ho
    have hE : execF ⟨16, n, m⟩ v s1 below = (s1, 180) := by unfold execF; rw [if_neg hn]; simp
    rw [hE, advR_err _ _ (by omega)]
    simp [q1, q2, q3, q4, q5]
  have hl : 2 ≤ (s.stack.length : Int) := by
    rw [q5] at hn
    have e : needsF op = 2 := by unfold needsF; rw [if_neg (by omega), if_pos (by omega)]
    rw [e] at hn; omega
  refine ⟨by omega, by omega, fun a ha => ⟨by omega, by omega, fun b hb => ?_⟩⟩
  have t1 : topF s1.stack 1 = a := get_top (by rw [q5]; exact ha) (by rw [q5]; omega)
  have t0 : topF s1.stack 0 = b := get_top (by rw [q5]; exact hb) (by rw [q5]; omega)
  have hE : execF ⟨op, n, m⟩ v s1 below = if (binF op a b).2 ≠ 0 then (s1, (binF op a b).2) else (s1.pops 2 [(binF op a b).1], 0) := by
    unfold execF
    rw [if_neg hn]
    simp only [t0, t1, o1, o2, o12, o13, o14, o15, o16, if_false]
  refine ⟨fun he => ⟨fun _ => ?_, fun h' => absurd h' he⟩, fun he => ⟨⟨by omega, by omega⟩, ?_⟩⟩
  · rw [hE, if_pos he, advR_err _ _ he]; simp [q1, q2, q3, q4, q5]
  · rw [hE, if_neg (by simp [he]), advR_ok, e2n]
    exact app_ok (by simp [St.pops, q1]) (by simp [St.pops, q2]) (by simp [St.pops, q3]) (by simp [St.pops, q4]) (by rw [List.length_take]; omega) (by simp [St.pops, q5])
end Go.Proofs.YtcaomfbcchemnaaDoor
