/- Laws of evaluation, in plain Lean: depth does not matter; two operands; the range of a value. -/
import Derived.Test.YtophdbbbojnobaaOp18
namespace Go.Proofs.Ytophdbbbojnobaa
open Go.RowKit
set_option linter.unusedVariables false

theorem form_mono : ∀ (d : Nat) (e : Ex), formF d e = true → formF (d + 1) e = true := by
  intro d
  induction d with
  | zero => intro e h; simp [formF] at h
  | succ d ih =>
    intro e h
    simp only [formF, Bool.and_eq_true, decide_eq_true_eq] at h ⊢
    refine ⟨h.1, ?_⟩
    by_cases h1 : e.op = 1
    · simpa [h1] using h.2
    · by_cases h2 : e.op = 2
      · simpa [h1, h2] using h.2
      · have h3 := h.2
        rw [if_neg h1, if_neg h2] at h3 ⊢
        rw [List.all_eq_true] at h3 ⊢
        intro x hx
        have := ih x (h3 x hx)
        simpa [formF] using this
theorem evalF_succ (d : Nat) (e : Ex) (x : Ev) : evalF (d + 1) e x = if e.op = 1 then (e.n, 0) else if e.op = 2 then loadF x e.n.toNat else
    if (evalF d (e.l.getD 0 ex0) x).2 ≠ 0 then (0, (evalF d (e.l.getD 0 ex0) x).2) else
    if (evalF d (e.l.getD 1 ex0) x).2 ≠ 0 then (0, (evalF d (e.l.getD 1 ex0) x).2) else
    if e.op ≠ 11 then applyF e.op (evalF d (e.l.getD 0 ex0) x).1 (evalF d (e.l.getD 1 ex0) x).1 else
    if (evalF d (e.l.getD 0 ex0) x).1 < (evalF d (e.l.getD 1 ex0) x).1 then evalF d (e.l.getD 2 ex0) x else evalF d (e.l.getD 3 ex0) x := rfl
theorem eval_mono (x : Ev) : ∀ (d : Nat) (e : Ex), formF d e = true → evalF (d + 1) e x = evalF d e x := by
  intro d
  induction d with
  | zero => intro e h; simp [formF] at h
  | succ d ih =>
    intro e h
    by_cases h1 : e.op = 1
    · simp only [evalF, if_pos h1]
    · by_cases h2 : e.op = 2
      · simp only [evalF, if_neg h1, if_pos h2]
      · obtain ⟨hlo, hhi, h4, hl2, hch⟩ := formF_open h h1 h2
        have hl0 : 2 ≤ e.l.length := by
          by_cases h11 : e.op = 11
          · have := h4 h11; omega
          · have := hl2 h11; omega
        have hg0 : evalF (d + 1) (e.l.getD 0 ex0) x = evalF d (e.l.getD 0 ex0) x := ih _ (hch 0 (by omega))
        have hg1 : evalF (d + 1) (e.l.getD 1 ex0) x = evalF d (e.l.getD 1 ex0) x := ih _ (hch 1 (by omega))
        by_cases h11 : e.op = 11
        · have hl := h4 h11
          have hg2 : evalF (d + 1) (e.l.getD 2 ex0) x = evalF d (e.l.getD 2 ex0) x := ih _ (hch 2 (by omega))
          have hg3 : evalF (d + 1) (e.l.getD 3 ex0) x = evalF d (e.l.getD 3 ex0) x := ih _ (hch 3 (by omega))
          rw [evalF_succ (d + 1) e, evalF_succ d e, hg0, hg1, hg2, hg3]
        · rw [evalF_succ (d + 1) e, evalF_succ d e, hg0, hg1]
          have h11' : e.op ≠ 11 := h11
          simp only [if_neg h1, if_neg h2, if_pos h11']
theorem form_le {d d' : Nat} {e : Ex} (h : formF d e = true) (hd : d ≤ d') : formF d' e = true := by
  induction hd with
  | refl => exact h
  | step _ ih => exact form_mono _ _ ih
theorem eval_le {d d' : Nat} {e : Ex} {x : Ev} (h : formF d e = true) (hd : d ≤ d') : evalF d' e x = evalF d e x := by
  induction hd with
  | refl => rfl
  | step hk ih => rw [eval_mono x _ _ (form_le h hk), ih]
theorem EvalF_of {e : Ex} {x : Ev} (h : formF 23 e = true) : EvalF e x = evalF 23 e x := by
  unfold EvalF
  rw [if_pos (form_le h (by decide)), eval_le h (by decide)]

theorem form_two {d : Nat} {op : Int} {a b : Ex} (h3 : 3 ≤ op) (h10 : op ≤ 10) (ha : formF d a = true) (hb : formF d b = true) : formF (d + 1) (two op a b) = true := by
  have e : formF (d + 1) (two op a b) = (decide (((2 : Nat) : Int) = opsF op) && (if op = 1 then decide ((0 : Int) ≤ 0) && decide ((0 : Int) ≤ 1099511627776) else if op = 2 then decide ((0 : Int) ≤ 0) && decide ((0 : Int) < 16) else [a, b].all (formF d))) := rfl
  have ho : opsF op = 2 := by unfold opsF; rw [if_neg (by omega), if_neg (by omega), if_neg (by omega)]
  rw [e, ho, if_neg (by omega), if_neg (by omega)]
  simp [ha, hb]
theorem two_eval {op : Int} {a b : Ex} {x : Ev} (h3 : 3 ≤ op) (h10 : op ≤ 10) (ha : formF 23 a = true) (hb : formF 23 b = true) :
    EvalF (two op a b) x = if (EvalF a x).2 ≠ 0 then (0, (EvalF a x).2) else if (EvalF b x).2 ≠ 0 then (0, (EvalF b x).2) else applyF op (EvalF a x).1 (EvalF b x).1 := by
  have hf : formF 24 (two op a b) = true := form_two h3 h10 ha hb
  rw [EvalF_of ha, EvalF_of hb]
  have : EvalF (two op a b) x = evalF 24 (two op a b) x := by unfold EvalF; rw [if_pos hf]
  rw [this]
  show evalF (23 + 1) (two op a b) x = _
  rw [evalF_succ]
  simp only [two, Ex.op, Ex.l, List.getD_cons_zero, List.getD_cons_succ]
  rw [if_neg (by omega), if_neg (by omega)]
  have h11 : op ≠ 11 := by omega
  simp only [h11, ne_eq, not_false_eq_true, if_true]

theorem rng_in {c : Int} (h : (rngF c).2 = 0) : inR (rngF c).1 = true := by
  unfold rngF at h ⊢
  split at h
  · rename_i hc; rw [if_pos hc]; exact hc
  · cases h
theorem div_in {a b m : Int} (h : (divF a b m).2 = 0) : inR (divF a b m).1 = true := by
  unfold divF at h ⊢
  split at h
  · cases h
  · rename_i hm
    rw [if_neg hm]
    split at h
    · cases h
    · rename_i hr
      rw [if_neg hr]
      simp only [Bool.not_eq_true', Bool.not_eq_false, Bool.and_eq_true, inR_iff] at hr
      split at h
      · cases h
      · rename_i hb
        rw [if_neg hb]
        have hb0 : 0 < b := by omega
        have e1 : a / b * b ≤ a := Int.ediv_mul_le a (by omega)
        have e2 : a < (a / b + 1) * b := Int.lt_ediv_add_one_mul_self a hb0
        have f1 : (-a) / b * b ≤ -a := Int.ediv_mul_le (-a) (by omega)
        have f2 : -a < ((-a) / b + 1) * b := Int.lt_ediv_add_one_mul_self (-a) hb0
        have g1 : (2 * a + b) / (2 * b) * (2 * b) ≤ 2 * a + b := Int.ediv_mul_le _ (by omega)
        have g2 : 2 * a + b < ((2 * a + b) / (2 * b) + 1) * (2 * b) := Int.lt_ediv_add_one_mul_self _ (by omega)
        have key : ∀ q : Int, q * b ≤ a + b - 1 → a - b + 1 ≤ q * b → inR q = true := by
          intro q h1 h2
          rw [inR_iff]
          constructor
          · by_cases hq : -9007199254740992 ≤ q
            · exact hq
            · exfalso
              have : (q + 9007199254740992) * b ≤ (-1) * b := Int.mul_le_mul_of_nonneg_right (by omega) (by omega)
              rw [Int.add_mul] at this
              have h9 : (9007199254740992 : Int) * b ≥ 9007199254740992 := by omega
              omega
          · by_cases hq : q ≤ 9007199254740992
            · exact hq
            · exfalso
              have : 1 * b ≤ (q - 9007199254740992) * b := Int.mul_le_mul_of_nonneg_right (by omega) (by omega)
              rw [Int.sub_mul] at this
              omega
        split
        · exact key (a / b) (by omega) (by rw [Int.add_mul] at e2; omega)
        · split
          · refine key (-((-a) / b)) ?_ ?_
            · rw [Int.neg_mul]; rw [Int.add_mul] at f2; omega
            · rw [Int.neg_mul]; omega
          · refine key ((2 * a + b) / (2 * b)) ?_ ?_
            · have : (2 * a + b) / (2 * b) * (2 * b) = 2 * ((2 * a + b) / (2 * b) * b) := by rw [Int.mul_left_comm]
              omega
            · have : ((2 * a + b) / (2 * b) + 1) * (2 * b) = 2 * ((2 * a + b) / (2 * b) * b) + 2 * b := by rw [Int.add_mul, Int.mul_left_comm]; omega
              omega
theorem eval_in (x : Ev) : ∀ (d : Nat) (e : Ex), formF d e = true → (evalF d e x).2 = 0 → inR (evalF d e x).1 = true := by
  intro d
  induction d with
  | zero => intro e h; simp [formF] at h
  | succ d ih =>
    intro e h h0
    by_cases h1 : e.op = 1
    · have := formF_int h h1
      simp only [evalF, if_pos h1]
      rw [inR_iff]; omega
    · by_cases h2 : e.op = 2
      · simp only [evalF, if_neg h1, if_pos h2] at h0 ⊢
        unfold loadF at h0 ⊢
        split at h0
        · cases h0
        · rename_i hb; rw [if_neg hb]
          split at h0
          · rename_i hr; rw [if_pos hr]; exact hr
          · cases h0
      · obtain ⟨hlo, hhi, h4, hl2, hch⟩ := formF_open h h1 h2
        rw [evalF_succ] at h0 ⊢
        simp only [if_neg h1, if_neg h2] at h0 ⊢
        by_cases ha : (evalF d (e.l.getD 0 ex0) x).2 = 0
        · rw [if_neg (by simpa using ha)] at h0 ⊢
          by_cases hb : (evalF d (e.l.getD 1 ex0) x).2 = 0
          · rw [if_neg (by simpa using hb)] at h0 ⊢
            by_cases h11 : e.op = 11
            · have hl := h4 h11
              rw [if_neg (by simpa using h11)] at h0 ⊢
              split at h0
              · rename_i hc; rw [if_pos hc]; exact ih _ (hch 2 (by omega)) h0
              · rename_i hc; rw [if_neg hc]; exact ih _ (hch 3 (by omega)) h0
            · have hl := hl2 h11
              rw [if_pos (by simpa using h11)] at h0 ⊢
              have ia := ih _ (hch 0 (by omega)) ha
              have ib := ih _ (hch 1 (by omega)) hb
              unfold applyF addF subF mulF at h0 ⊢
              by_cases k3 : e.op = 3
              · simp only [if_pos k3, ia, ib, Bool.and_true, if_true] at h0 ⊢; exact rng_in h0
              · by_cases k4 : e.op = 4
                · simp only [if_neg k3, if_pos k4, ia, ib, Bool.and_true, if_true] at h0 ⊢; exact rng_in h0
                · by_cases k5 : e.op = 5
                  · simp only [if_neg k3, if_neg k4, if_pos k5, ia, ib, Bool.and_true, if_true] at h0 ⊢; exact rng_in h0
                  · by_cases k6 : e.op = 6
                    · simp only [if_neg k3, if_neg k4, if_neg k5, if_pos k6]
                      rw [inR_iff] at ia ib ⊢; omega
                    · by_cases k7 : e.op = 7
                      · simp only [if_neg k3, if_neg k4, if_neg k5, if_neg k6, if_pos k7]
                        rw [inR_iff] at ia ib ⊢; omega
                      · simp only [if_neg k3, if_neg k4, if_neg k5, if_neg k6, if_neg k7] at h0 ⊢
                        exact div_in h0
          · rw [if_pos hb] at h0; exact absurd h0 hb
        · rw [if_pos ha] at h0; exact absurd h0 ha
theorem EvalF_in {e : Ex} {x : Ev} (h : formF 23 e = true) (h0 : (EvalF e x).2 = 0) : inR (EvalF e x).1 = true := by
  rw [EvalF_of h] at h0 ⊢
  exact eval_in x 23 e h h0
end Go.Proofs.Ytophdbbbojnobaa
