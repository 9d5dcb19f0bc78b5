/- Chapter 21: a step of the machine, shown once for every heap. -/
import Derived.Test.YtcaomfbcchemnaaDoorTvG
namespace Go.Proofs.YtcaomfbcchemnaaDoor
open Go
set_option linter.unusedVariables false
set_option linter.unusedSimpArgs false
/-- a state in which a step can be done -/
structure CanAdv (c : List Ins) (s : St) (below : Int) : Prop where
  short : c.length ≤ 4096
  pc0 : 0 ≤ s.pc
  pc1 : s.pc < c.length
  formed : ∀ x, c[s.pc.toNat]? = some x → formedF x = true
  fuel0 : 0 ≤ s.fuel
  fuel1 : s.fuel ≤ 1000000
  below0 : 0 ≤ below
  below1 : below ≤ 64
  stack : s.stack.length ≤ 64
def advR (s1 : St) (r : St × Int) : St := if r.2 = 0 then r.1 else { s1 with status := 10 + r.2 }
theorem advR_ok (s1 a : St) : advR s1 (a, 0) = a := by simp [advR]
theorem advR_err (s1 a : St) {e : Int} (h : ¬ e = 0) : advR s1 (a, e) = { s1 with status := 10 + e } := by simp [advR, h]
theorem advF_at {c : List Ins} {v : Env} {s : St} {below : Int} {x : Ins} (hx : c[s.pc.toNat]? = some x) (h : ¬ s.fuel = 0) : advF c v s below = advR { s with fuel := s.fuel - 1 } (execF x v { s with fuel := s.fuel - 1 } below) := by
  unfold advF
  rw [if_neg h, hx]
  rfl
theorem formed_op {x : Ins} (hf : formedF x = true) : 1 ≤ x.op ∧ x.op ≤ 16 := by
  unfold formedF at hf
  repeat' split at hf
  all_goals simp only [decide_eq_true_eq] at hf
  all_goals omega
theorem get_top {l : List Int} {i : Nat} {y : Int} (h : l[i]? = some y) {j : Nat} (hj : i = l.length - 1 - j) : topF l j = y := by
  unfold topF
  rw [← hj, List.getD_eq_getElem?_getD, h]; rfl
theorem advance_pure (c : List Ins) (v : Env) (s : St) (below : Int) (h : CanAdv c s below) : PureC E 34 [.psl .ins c false, envV v, stV s, .int false .i64 below] (stV (advF c v s below)) := by
  obtain ⟨hc, h0, h1, hf, f0, f1, b0, b1, hs⟩ := h
  refine pure_of_call E_ok (callOk_of E_ok F5_ok 400) ?_
  rw [cond_advance]
  obtain ⟨x, hx⟩ : ∃ x, c[s.pc.toNat]? = some x := ⟨c[s.pc.toNat]'(by omega), by simp⟩
  have hfx := hf x hx
  have hop := formed_op hfx
  have hn9 : ∀ k : Nat, ((k : Nat) : Int) = k := fun _ => rfl
  have ef : wr .i64 (s.fuel - 1) = s.fuel - 1 := wr64 (by omega) (by omega)
  have ep : wr .i64 (s.pc + 1) = s.pc + 1 := wr64 (by omega) (by omega)
  have eb : wr .i64 (below + (s.stack.length : Int)) = below + s.stack.length := wr64 (by omega) (by omega)
  have e0 : wr .i64 ((s.stack.length : Int) - 0) = s.stack.length := by rw [wr64 (by omega) (by omega)]; omega
  have e1 : wr .i64 ((s.stack.length : Int) - 1) = s.stack.length - 1 := wr64 (by omega) (by omega)
  have e10 : wr .i64 ((s.stack.length : Int) - 1 - 0) = s.stack.length - 1 := by rw [wr64 (by omega) (by omega)]; omega
  have e11 : wr .i64 ((s.stack.length : Int) - 1 - 1) = s.stack.length - 2 := by rw [wr64 (by omega) (by omega)]; omega
  have e2 : wr .i64 ((s.stack.length : Int) - 2) = s.stack.length - 2 := wr64 (by omega) (by omega)
  simp only [hx, Option.some.injEq, forall_eq', ef, ep, eb, e0, e1, e10, e11, e2, Int.toNat_natCast, List.take_length, bif_true, bif_false, bif_nt, bif_tf, bif_ft, beq_iff_eq, bne_iff_ne, beq_eq_false_iff_ne, bne_eq_false_iff_eq, decide_eq_true_eq, decide_eq_false_iff_not, Bool.or_eq_true, Bool.or_eq_false_iff, Bool.not_eq_true', Bool.not_eq_false', Bool.and_eq_true, Bool.and_true, Bool.true_and, Bool.and_eq_false_iff, beq_self_eq_true, mm2_max, mm2_min, ne_eq, and_true, true_and, Bool.true_eq_false, Bool.false_eq_true, false_or, or_false, true_implies, Int.ofNat_eq_natCast, not_true_eq_false, not_false_eq_true, Decidable.not_not, ge_iff_le, gt_iff_lt]
  refine ⟨fun h => by unfold advF; rw [if_pos h]; simp, fun h => ⟨by omega, by omega, fun hn => ?_, fun hn => ?_⟩⟩
  all_goals rw [advF_at hx h]
  · have hE : execF x v { s with fuel := s.fuel - 1 } below = ({ s with fuel := s.fuel - 1 }, 200) := by unfold execF; rw [if_pos hn]
    rw [hE]; simp [advR]
  clear hx hf ef ep eb e0 e1 e10 e11 e2
  obtain ⟨s1, hs1⟩ : ∃ s1 : St, s1 = { s with fuel := s.fuel - 1 } := ⟨_, rfl⟩
  have q1 : s1.pc = s.pc := by rw [hs1]
  have q2 : s1.fuel = s.fuel - 1 := by rw [hs1]
  have q3 : s1.status = s.status := by rw [hs1]
  have q4 : s1.clause = s.clause := by rw [hs1]
  have q5 : s1.stack = s.stack := by rw [hs1]
  rw [← hs1]
  have hn : ¬ ((s1.stack.length : Int) < needsF x.op) := by rw [q5]; exact hn
  clear hs1
  obtain ⟨op, n, m⟩ := x
  dsimp only at *
  have e1n : Int.toNat ((s.stack.length : Int) - 1) = s.stack.length - 1 := by omega
  have e2n : Int.toNat ((s.stack.length : Int) - 2) = s.stack.length - 2 := by omega
  refine ⟨fun ho => ?_, fun o1 => ⟨fun ho => ?_, fun o2 => ⟨fun ho => ?_, fun o12 => ⟨fun ho => ?_, fun o13 => ⟨fun ho => ?_, fun o14 => ⟨fun ho => ?_, fun o15 => ⟨fun ho => ?_, fun o16 => ?_⟩⟩⟩⟩⟩⟩⟩
  · subst ho
    refine ⟨fun h64 => ?_, fun h64 => ?_⟩
    · have hE : execF ⟨1, n, m⟩ v s1 below = (s1, 200) := by unfold execF; rw [if_neg hn]; simp [q5, h64]
      rw [hE, advR_err _ _ (by omega)]; simp [q1, q2, q3, q4, q5]
    · have hE : execF ⟨1, n, m⟩ v s1 below = (s1.pops 0 [n], 0) := by unfold execF; rw [if_neg hn]; simp [q5, h64]
      rw [hE, advR_ok]
      refine ⟨⟨by omega, by omega⟩, by omega, by simp [St.pops, q1], by simp [St.pops, q2], by simp [St.pops, q3], by simp [St.pops, q4], ?_⟩
      simp [St.pops, q5]
      all_goals first | omega | exact List.take_of_length_le (by simp only [List.length_append, List.length_take, List.length_cons, List.length_nil]; omega)
  · subst ho
    refine ⟨fun h64 => ?_, fun h64 => ?_⟩
    · have hE : execF ⟨2, n, m⟩ v s1 below = (s1, 200) := by unfold execF; rw [if_neg hn]; simp [q5, h64]
      rw [hE, advR_err _ _ (by omega)]; simp [q1, q2, q3, q4, q5]
    have hn15 : 0 ≤ n ∧ n ≤ 15 := by simp [formedF] at hfx; omega
    have hbit : bitsOp BinOp.and IntKind.i64 v.has (wr IntKind.i64 (1 * 2 ^ min n.toNat IntKind.i64.bits)) = 0 ↔ (v.has / 2 ^ n.toNat) % 2 = 0 := by
      have e : ∀ k : Nat, k ≤ 15 → wr IntKind.i64 (1 * 2 ^ min k IntKind.i64.bits) = ((2 ^ k : Nat) : Int) := by decide
      rw [e _ (by omega)]
      have e2 := and_bit v.has n.toNat (by omega)
      have e3 : (bitsOp BinOp.and IntKind.i64 v.has ((2 ^ n.toNat : Nat) : Int) == 0) = decide ((v.has / ((2 ^ n.toNat : Nat) : Int)) % 2 = 0) := e2
      rw [← beq_iff_eq (a := bitsOp BinOp.and IntKind.i64 v.has ((2 ^ n.toNat : Nat) : Int)), e3, decide_eq_true_eq]
      simp
    refine ⟨by omega, fun hb => ?_, fun hb => ⟨by omega, by omega, ?_⟩⟩
    · have hE : execF ⟨2, n, m⟩ v s1 below = (s1, 181) := by unfold execF; rw [if_neg hn]; simp [q5, h64, hbit.1 hb]
      rw [hE, advR_err _ _ (by omega)]; simp [q1, q2, q3, q4, q5]
    have hb' : ¬ (v.has / 2 ^ n.toNat) % 2 = 0 := fun h => hb (hbit.2 h)
    have key : ∀ w : Int, v.v.getD n.toNat 0 = w → ∃ Q : Bool → Prop, ((w < -9007199254740992 → Q true) ∧ (¬w < -9007199254740992 → (9007199254740992 < w → Q true) ∧ (¬9007199254740992 < w → Q false))) ∧
        (Q true → s.pc = (advR s1 (execF ⟨2, n, m⟩ v s1 below)).pc ∧ s.fuel - 1 = (advR s1 (execF ⟨2, n, m⟩ v s1 below)).fuel ∧ 13 = (advR s1 (execF ⟨2, n, m⟩ v s1 below)).status ∧ s.clause = (advR s1 (execF ⟨2, n, m⟩ v s1 below)).clause ∧ s.stack = (advR s1 (execF ⟨2, n, m⟩ v s1 below)).stack ∧ (False → False)) ∧
        (Q false → (0 ≤ (s.stack.length : Int) ∧ (s.stack.length : Int) ≤ s.stack.length) ∧ (s.stack.length + 1) * 8 ≤ 140737488355328 ∧ s.pc + 1 = (advR s1 (execF ⟨2, n, m⟩ v s1 below)).pc ∧ s.fuel - 1 = (advR s1 (execF ⟨2, n, m⟩ v s1 below)).fuel ∧ s.status = (advR s1 (execF ⟨2, n, m⟩ v s1 below)).status ∧ s.clause = (advR s1 (execF ⟨2, n, m⟩ v s1 below)).clause ∧
          0 + (s.stack.length + 1) ≤ (s.stack ++ [w]).length ∧ List.take (s.stack.length + 1) (s.stack ++ [w]) = (advR s1 (execF ⟨2, n, m⟩ v s1 below)).stack) := by
      intro w hw
      refine ⟨fun b => (b = true ↔ (w < -9007199254740992 ∨ 9007199254740992 < w)), ⟨fun h => by simp [h], fun h => ⟨fun h' => by simp [h'], fun h' => by simp; omega⟩⟩, fun hQ => ?_, fun hQ => ?_⟩
      · have hQ := hQ.1 rfl
        have hE : execF ⟨2, n, m⟩ v s1 below = (s1, 3) := by unfold execF; rw [if_neg hn]; dsimp only; rw [if_neg (by omega), if_pos rfl, if_neg (by rw [q5]; exact h64), if_neg hb', hw, if_pos hQ]
        rw [hE, advR_err _ _ (by omega)]; simp [q1, q2, q3, q4, q5]
      · have hQ : ¬ (w < -9007199254740992 ∨ 9007199254740992 < w) := fun h => absurd (hQ.2 h) (by simp)
        have hE : execF ⟨2, n, m⟩ v s1 below = (s1.pops 0 [w], 0) := by unfold execF; rw [if_neg hn]; dsimp only; rw [if_neg (by omega), if_pos rfl, if_neg (by rw [q5]; exact h64), if_neg hb', hw, if_neg hQ]
        rw [hE, advR_ok]
        refine ⟨⟨by omega, by omega⟩, by omega, by simp [St.pops, q1], by simp [St.pops, q2], by simp [St.pops, q3], by simp [St.pops, q4], by simp, ?_⟩
        simp [St.pops, q5]
        all_goals first | omega | exact List.take_of_length_le (by simp only [List.length_append, List.length_take, List.length_cons, List.length_nil]; omega)
    exact ⟨fun hk => key _ (by rw [show n = 0 by omega]; rfl), fun _ => ⟨fun hk => key _ (by rw [show n = 1 by omega]; rfl), fun _ => ⟨fun hk => key _ (by rw [show n = 2 by omega]; rfl), fun _ => ⟨fun hk => key _ (by rw [show n = 3 by omega]; rfl), fun _ => ⟨fun hk => key _ (by rw [show n = 4 by omega]; rfl), fun _ => ⟨fun hk => key _ (by rw [show n = 5 by omega]; rfl), fun _ => ⟨fun hk => key _ (by rw [show n = 6 by omega]; rfl), fun _ => ⟨fun hk => key _ (by rw [show n = 7 by omega]; rfl), fun _ => ⟨fun hk => key _ (by rw [show n = 8 by omega]; rfl), fun _ => ⟨fun hk => key _ (by rw [show n = 9 by omega]; rfl), fun _ => ⟨fun hk => key _ (by rw [show n = 10 by omega]; rfl), fun _ => ⟨fun hk => key _ (by rw [show n = 11 by omega]; rfl), fun _ => ⟨fun hk => key _ (by rw [show n = 12 by omega]; rfl), fun _ => ⟨fun hk => key _ (by rw [show n = 13 by omega]; rfl), fun _ => ⟨fun hk => key _ (by rw [show n = 14 by omega]; rfl), fun _ => ⟨fun hk => key _ (by rw [show n = 15 by omega]; rfl), fun _ => trivial⟩⟩⟩⟩⟩⟩⟩⟩⟩⟩⟩⟩⟩⟩⟩⟩
  · subst ho
    have hl : 1 ≤ (s.stack.length : Int) := by rw [q5] at hn; simp [needsF] at hn; omega
    refine ⟨by omega, by omega, fun a ha => ?_⟩
    have t0 : topF s1.stack 0 = a := get_top (by rw [q5]; exact ha) (by rw [q5]; omega)
    have hE : execF ⟨12, n, m⟩ v s1 below = (s1.pops 1 [if n ≤ a ∧ a ≤ m then 1 else 0], 0) := by unfold execF; rw [if_neg hn]; simp [t0]
    rw [hE, advR_ok]
    refine ⟨fun hna => ⟨by omega, by omega, fun b hb => ?_⟩, fun hna => ?_⟩
    · rw [ha] at hb; cases hb
      refine ⟨fun hm => ?_, fun hm => ?_⟩
      all_goals
        refine ⟨⟨by omega, by omega⟩, by simp only [List.length_take]; omega, by simp [St.pops, q1], by simp [St.pops, q2], by simp [St.pops, q3], by simp [St.pops, q4], ?_⟩
        rw [e1n]
        simp [St.pops, q5, hna, hm]
        all_goals first | omega | exact List.take_of_length_le (by simp only [List.length_append, List.length_take, List.length_cons, List.length_nil]; omega)
    · refine ⟨⟨by omega, by omega⟩, by simp only [List.length_take]; omega, by simp [St.pops, q1], by simp [St.pops, q2], by simp [St.pops, q3], by simp [St.pops, q4], ?_⟩
      rw [e1n]
      simp [St.pops, q5, hna]
      all_goals first | omega | exact List.take_of_length_le (by simp only [List.length_append, List.length_take, List.length_cons, List.length_nil]; omega)
  · subst ho
    have hl : 1 ≤ (s.stack.length : Int) := by rw [q5] at hn; simp [needsF] at hn; omega
    refine ⟨by omega, by omega, fun a ha => ⟨⟨by omega, by omega⟩, ?_⟩⟩
    have t0 : topF s1.stack 0 = a := get_top (by rw [q5]; exact ha) (by rw [q5]; omega)
    have hE : execF ⟨13, n, m⟩ v s1 below = ({ s1.pops 1 [] with pc := if a = 0 then n else s1.pc + 1 }, 0) := by unfold execF; rw [if_neg hn]; simp [t0]
    rw [hE, advR_ok, e1n]
    refine ⟨fun hz => ?_, fun hz => ?_⟩
    all_goals simp [St.pops, q1, q2, q3, q4, q5, hz]
  · subst ho
    have hE : execF ⟨14, n, m⟩ v s1 below = ({ s1 with pc := n }, 0) := by unfold execF; rw [if_neg hn]; simp
    rw [hE, advR_ok]
    simp [q1, q2, q3, q4, q5]
  · subst ho
    have hE : execF ⟨15, n, m⟩ v s1 below = ({ s1 with status := 1, clause := n }, 0) := by unfold execF; rw [if_neg hn]; simp
    rw [hE, advR_ok]
    simp [q1, q2, q3, q4, q5]
  · subst ho
    have hE : execF ⟨16, n, m⟩ v s1 below = (s1, 180) := by unfold execF; rw [if_neg hn]; simp
    rw [hE, advR_err _ _ (by omega)]
    simp [q1, q2, q3, q4, q5]
  have hl : 2 ≤ (s.stack.length : Int) := by
    rw [q5] at hn
    have e : needsF op = 2 := by unfold needsF; rw [if_neg (by omega), if_pos (by omega)]
    rw [e] at hn; omega
  refine ⟨fun ho => ?_, fun o3 => ⟨fun ho => ?_, fun o4 => ⟨fun ho => ?_, fun o5 => ⟨fun ho => ?_, fun o6 => ⟨fun ho => ?_, fun o7 => ⟨fun ho => ?_, fun o8 => ⟨fun ho => ?_, fun o9 => ⟨fun ho => ?_, fun o10 => ⟨fun ho => ?_, fun o11 => by omega⟩⟩⟩⟩⟩⟩⟩⟩⟩
  · obtain rfl : op = 3 := by omega
    clear ho
    refine ⟨by omega, by omega, fun a ha => ⟨by omega, by omega, fun b hb => ?_⟩⟩
    have t1 : topF s1.stack 1 = a := get_top (by rw [q5]; exact ha) (by rw [q5]; omega)
    have t0 : topF s1.stack 0 = b := get_top (by rw [q5]; exact hb) (by rw [q5]; omega)
    have hE : execF ⟨3, n, m⟩ v s1 below = if (addF a b).2 ≠ 0 then (s1, (addF a b).2) else (s1.pops 2 [(addF a b).1], 0) := by
      unfold execF; rw [if_neg hn]; simp [t0, t1, binF]
    have hw : wr .i64 (10 + (addF a b).2) = 10 + (addF a b).2 := by
      have := addF_err a b
      rw [wr64 (by omega) (by omega)]
    refine ⟨fun he => ⟨fun _ => ?_, fun h' => absurd h' he⟩, fun he => ?_⟩
    · rw [hE, if_pos he, advR_err _ _ he, hw]; simp [q1, q2, q3, q4, q5]
    · rw [hE, if_neg (by simp [he]), advR_ok]
      refine ⟨⟨by omega, by omega⟩, by simp only [List.length_take]; omega, by simp [St.pops, q1], by simp [St.pops, q2], by simp [St.pops, q3], by simp [St.pops, q4], ?_⟩
      rw [e2n]
      simp [St.pops, q5]
      all_goals first | omega | exact List.take_of_length_le (by simp only [List.length_append, List.length_take, List.length_cons, List.length_nil]; omega)
  · obtain rfl : op = 4 := by omega
    clear ho
    refine ⟨by omega, by omega, fun a ha => ⟨by omega, by omega, fun b hb => ?_⟩⟩
    have t1 : topF s1.stack 1 = a := get_top (by rw [q5]; exact ha) (by rw [q5]; omega)
    have t0 : topF s1.stack 0 = b := get_top (by rw [q5]; exact hb) (by rw [q5]; omega)
    have hE : execF ⟨4, n, m⟩ v s1 below = if (subF a b).2 ≠ 0 then (s1, (subF a b).2) else (s1.pops 2 [(subF a b).1], 0) := by
      unfold execF; rw [if_neg hn]; simp [t0, t1, binF]
    have hw : wr .i64 (10 + (subF a b).2) = 10 + (subF a b).2 := by
      have := subF_err a b
      rw [wr64 (by omega) (by omega)]
    refine ⟨fun he => ⟨fun _ => ?_, fun h' => absurd h' he⟩, fun he => ?_⟩
    · rw [hE, if_pos he, advR_err _ _ he, hw]; simp [q1, q2, q3, q4, q5]
    · rw [hE, if_neg (by simp [he]), advR_ok]
      refine ⟨⟨by omega, by omega⟩, by simp only [List.length_take]; omega, by simp [St.pops, q1], by simp [St.pops, q2], by simp [St.pops, q3], by simp [St.pops, q4], ?_⟩
      rw [e2n]
      simp [St.pops, q5]
      all_goals first | omega | exact List.take_of_length_le (by simp only [List.length_append, List.length_take, List.length_cons, List.length_nil]; omega)
  · obtain rfl : op = 5 := by omega
    clear ho
    refine ⟨by omega, by omega, fun a ha => ⟨by omega, by omega, fun b hb => ?_⟩⟩
    have t1 : topF s1.stack 1 = a := get_top (by rw [q5]; exact ha) (by rw [q5]; omega)
    have t0 : topF s1.stack 0 = b := get_top (by rw [q5]; exact hb) (by rw [q5]; omega)
    have hE : execF ⟨5, n, m⟩ v s1 below = if (mulF a b).2 ≠ 0 then (s1, (mulF a b).2) else (s1.pops 2 [(mulF a b).1], 0) := by
      unfold execF; rw [if_neg hn]; simp [t0, t1, binF]
    have hw : wr .i64 (10 + (mulF a b).2) = 10 + (mulF a b).2 := by
      have := mulF_err a b
      rw [wr64 (by omega) (by omega)]
    refine ⟨fun he => ⟨fun _ => ?_, fun h' => absurd h' he⟩, fun he => ?_⟩
    · rw [hE, if_pos he, advR_err _ _ he, hw]; simp [q1, q2, q3, q4, q5]
    · rw [hE, if_neg (by simp [he]), advR_ok]
      refine ⟨⟨by omega, by omega⟩, by simp only [List.length_take]; omega, by simp [St.pops, q1], by simp [St.pops, q2], by simp [St.pops, q3], by simp [St.pops, q4], ?_⟩
      rw [e2n]
      simp [St.pops, q5]
      all_goals first | omega | exact List.take_of_length_le (by simp only [List.length_append, List.length_take, List.length_cons, List.length_nil]; omega)
  · obtain rfl : op = 6 := by omega
    clear ho
    refine ⟨by omega, by omega, fun a ha => ⟨by omega, by omega, fun b hb => ?_⟩⟩
    have t1 : topF s1.stack 1 = a := get_top (by rw [q5]; exact ha) (by rw [q5]; omega)
    have t0 : topF s1.stack 0 = b := get_top (by rw [q5]; exact hb) (by rw [q5]; omega)
    have hE : execF ⟨6, n, m⟩ v s1 below = (s1.pops 2 [min a b], 0) := by
      unfold execF; rw [if_neg hn]; simp [t0, t1, binF]
    rw [hE, advR_ok]
    refine ⟨⟨by omega, by omega⟩, by simp only [List.length_take]; omega, by simp [St.pops, q1], by simp [St.pops, q2], by simp [St.pops, q3], by simp [St.pops, q4], ?_⟩
    rw [e2n]
    simp [St.pops, q5]
    all_goals first | omega | exact List.take_of_length_le (by simp only [List.length_append, List.length_take, List.length_cons, List.length_nil]; omega)
  · obtain rfl : op = 7 := by omega
    clear ho
    refine ⟨by omega, by omega, fun a ha => ⟨by omega, by omega, fun b hb => ?_⟩⟩
    have t1 : topF s1.stack 1 = a := get_top (by rw [q5]; exact ha) (by rw [q5]; omega)
    have t0 : topF s1.stack 0 = b := get_top (by rw [q5]; exact hb) (by rw [q5]; omega)
    have hE : execF ⟨7, n, m⟩ v s1 below = (s1.pops 2 [max a b], 0) := by
      unfold execF; rw [if_neg hn]; simp [t0, t1, binF]
    rw [hE, advR_ok]
    refine ⟨⟨by omega, by omega⟩, by simp only [List.length_take]; omega, by simp [St.pops, q1], by simp [St.pops, q2], by simp [St.pops, q3], by simp [St.pops, q4], ?_⟩
    rw [e2n]
    simp [St.pops, q5]
    all_goals first | omega | exact List.take_of_length_le (by simp only [List.length_append, List.length_take, List.length_cons, List.length_nil]; omega)
  · obtain rfl : op = 8 := by omega
    clear ho
    refine ⟨by omega, by omega, fun a ha => ⟨by omega, by omega, fun b hb => ?_⟩⟩
    have t1 : topF s1.stack 1 = a := get_top (by rw [q5]; exact ha) (by rw [q5]; omega)
    have t0 : topF s1.stack 0 = b := get_top (by rw [q5]; exact hb) (by rw [q5]; omega)
    have hE : execF ⟨8, n, m⟩ v s1 below = if (divF a b 8).2 ≠ 0 then (s1, (divF a b 8).2) else (s1.pops 2 [(divF a b 8).1], 0) := by
      unfold execF; rw [if_neg hn]; simp [t0, t1, binF]
    have hw : wr .i64 (10 + (divF a b 8).2) = 10 + (divF a b 8).2 := by
      have := divF_err a b 8
      rw [wr64 (by omega) (by omega)]
    refine ⟨fun he => ⟨fun _ => ?_, fun h' => absurd h' he⟩, fun he => ?_⟩
    · rw [hE, if_pos he, advR_err _ _ he, hw]; simp [q1, q2, q3, q4, q5]
    · rw [hE, if_neg (by simp [he]), advR_ok]
      refine ⟨⟨by omega, by omega⟩, by simp only [List.length_take]; omega, by simp [St.pops, q1], by simp [St.pops, q2], by simp [St.pops, q3], by simp [St.pops, q4], ?_⟩
      rw [e2n]
      simp [St.pops, q5]
      all_goals first | omega | exact List.take_of_length_le (by simp only [List.length_append, List.length_take, List.length_cons, List.length_nil]; omega)
  · obtain rfl : op = 9 := by omega
    clear ho
    refine ⟨by omega, by omega, fun a ha => ⟨by omega, by omega, fun b hb => ?_⟩⟩
    have t1 : topF s1.stack 1 = a := get_top (by rw [q5]; exact ha) (by rw [q5]; omega)
    have t0 : topF s1.stack 0 = b := get_top (by rw [q5]; exact hb) (by rw [q5]; omega)
    have hE : execF ⟨9, n, m⟩ v s1 below = if (divF a b 9).2 ≠ 0 then (s1, (divF a b 9).2) else (s1.pops 2 [(divF a b 9).1], 0) := by
      unfold execF; rw [if_neg hn]; simp [t0, t1, binF]
    have hw : wr .i64 (10 + (divF a b 9).2) = 10 + (divF a b 9).2 := by
      have := divF_err a b 9
      rw [wr64 (by omega) (by omega)]
    refine ⟨fun he => ⟨fun _ => ?_, fun h' => absurd h' he⟩, fun he => ?_⟩
    · rw [hE, if_pos he, advR_err _ _ he, hw]; simp [q1, q2, q3, q4, q5]
    · rw [hE, if_neg (by simp [he]), advR_ok]
      refine ⟨⟨by omega, by omega⟩, by simp only [List.length_take]; omega, by simp [St.pops, q1], by simp [St.pops, q2], by simp [St.pops, q3], by simp [St.pops, q4], ?_⟩
      rw [e2n]
      simp [St.pops, q5]
      all_goals first | omega | exact List.take_of_length_le (by simp only [List.length_append, List.length_take, List.length_cons, List.length_nil]; omega)
  · obtain rfl : op = 10 := by omega
    clear ho
    refine ⟨by omega, by omega, fun a ha => ⟨by omega, by omega, fun b hb => ?_⟩⟩
    have t1 : topF s1.stack 1 = a := get_top (by rw [q5]; exact ha) (by rw [q5]; omega)
    have t0 : topF s1.stack 0 = b := get_top (by rw [q5]; exact hb) (by rw [q5]; omega)
    have hE : execF ⟨10, n, m⟩ v s1 below = if (divF a b 10).2 ≠ 0 then (s1, (divF a b 10).2) else (s1.pops 2 [(divF a b 10).1], 0) := by
      unfold execF; rw [if_neg hn]; simp [t0, t1, binF]
    have hw : wr .i64 (10 + (divF a b 10).2) = 10 + (divF a b 10).2 := by
      have := divF_err a b 10
      rw [wr64 (by omega) (by omega)]
    refine ⟨fun he => ⟨fun _ => ?_, fun h' => absurd h' he⟩, fun he => ?_⟩
    · rw [hE, if_pos he, advR_err _ _ he, hw]; simp [q1, q2, q3, q4, q5]
    · rw [hE, if_neg (by simp [he]), advR_ok]
      refine ⟨⟨by omega, by omega⟩, by simp only [List.length_take]; omega, by simp [St.pops, q1], by simp [St.pops, q2], by simp [St.pops, q3], by simp [St.pops, q4], ?_⟩
      rw [e2n]
      simp [St.pops, q5]
      all_goals first | omega | exact List.take_of_length_le (by simp only [List.length_append, List.length_take, List.length_cons, List.length_nil]; omega)
  · obtain rfl : op = 11 := by omega
    clear ho
    refine ⟨by omega, by omega, fun a ha => ⟨by omega, by omega, fun b hb => ⟨fun hab => ?_, fun hab => ?_⟩⟩⟩
    all_goals
      have t1 : topF s1.stack 1 = a := get_top (by rw [q5]; exact ha) (by rw [q5]; omega)
      have t0 : topF s1.stack 0 = b := get_top (by rw [q5]; exact hb) (by rw [q5]; omega)
      have hE : execF ⟨11, n, m⟩ v s1 below = (s1.pops 2 [if a < b then 1 else 0], 0) := by
        unfold execF; rw [if_neg hn]; simp [t0, t1, binF]
      rw [hE, advR_ok]
      refine ⟨⟨by omega, by omega⟩, by simp only [List.length_take]; omega, by simp [St.pops, q1], by simp [St.pops, q2], by simp [St.pops, q3], by simp [St.pops, q4], ?_⟩
      rw [e2n]
      simp [St.pops, q5, hab]
      all_goals first | omega | exact List.take_of_length_le (by simp only [List.length_append, List.length_take, List.length_cons, List.length_nil]; omega)
end Go.Proofs.YtcaomfbcchemnaaDoor
