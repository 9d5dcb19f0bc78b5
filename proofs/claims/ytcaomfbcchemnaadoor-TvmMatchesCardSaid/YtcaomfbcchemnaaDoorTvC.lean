/- Chapter 21: the small functions. -/
import Derived.Test.YtcaomfbcchemnaaDoorTvB
namespace Go.Proofs.YtcaomfbcchemnaaDoor
open Go
set_option linter.unusedVariables false
set_option linter.unusedSimpArgs false
--@cond formed | 31 | F1 | 400 | (op n m : Int) | [.agg [.int false .i64 op, .int false .i64 n, .int false .i64 m]] | (b : Bool) | .bool false b
theorem cond_formed (op n m : Int) (b : Bool) : callF E F1 (vc E F1 400) 31 [.agg [.int false .i64 op, .int false .i64 n, .int false .i64 m]] hp0 0 (fun r => ret E (patch hp0 0 r) r.v (.bool false b)) = (
  ∃ (Q : Bool → Prop),
    ((decide (op < 1) = true → Q true) ∧
        (decide (op < 1) = false → (decide (op ≥ 17) = true → Q true) ∧ (decide (op ≥ 17) = false → Q false))) ∧
      (Q true → false = b) ∧
        (Q false →
          ((op == 1) = true →
              ((op == op && (0 == 0 && (m == 0 && true))) = true →
                  (decide (mm2 false n m ≥ 0) = true →
                      (decide (mm2 true n m ≤ 9007199254740992) = true → true = b) ∧
                        (decide (mm2 true n m ≤ 9007199254740992) = false → false = b)) ∧
                    (decide (mm2 false n m ≥ 0) = false → false = b)) ∧
                ((op == op && (0 == 0 && (m == 0 && true))) = false → false = b)) ∧
            ((op == 1) = false →
              ((op == 13) = true →
                  ((op == op && (0 == 0 && (m == 0 && true))) = true →
                      (decide (mm2 false n m ≥ 0) = true →
                          (decide (mm2 true n m ≤ 9007199254740992) = true → true = b) ∧
                            (decide (mm2 true n m ≤ 9007199254740992) = false → false = b)) ∧
                        (decide (mm2 false n m ≥ 0) = false → false = b)) ∧
                    ((op == op && (0 == 0 && (m == 0 && true))) = false → false = b)) ∧
                ((op == 13) = false →
                  ((op == 14) = true →
                      ((op == op && (0 == 0 && (m == 0 && true))) = true →
                          (decide (mm2 false n m ≥ 0) = true →
                              (decide (mm2 true n m ≤ 9007199254740992) = true → true = b) ∧
                                (decide (mm2 true n m ≤ 9007199254740992) = false → false = b)) ∧
                            (decide (mm2 false n m ≥ 0) = false → false = b)) ∧
                        ((op == op && (0 == 0 && (m == 0 && true))) = false → false = b)) ∧
                    ((op == 14) = false →
                      ((op == 15) = true →
                          ((op == op && (0 == 0 && (m == 0 && true))) = true →
                              (decide (mm2 false n m ≥ 0) = true →
                                  (decide (mm2 true n m ≤ 9007199254740992) = true → true = b) ∧
                                    (decide (mm2 true n m ≤ 9007199254740992) = false → false = b)) ∧
                                (decide (mm2 false n m ≥ 0) = false → false = b)) ∧
                            ((op == op && (0 == 0 && (m == 0 && true))) = false → false = b)) ∧
                        ((op == 15) = false →
                          ((op == 2) = true →
                              ((op == op && (0 == 0 && (m == 0 && true))) = true →
                                  (decide (mm2 false n m ≥ 0) = true →
                                      (decide (mm2 true n m ≤ 15) = true → true = b) ∧
                                        (decide (mm2 true n m ≤ 15) = false → false = b)) ∧
                                    (decide (mm2 false n m ≥ 0) = false → false = b)) ∧
                                ((op == op && (0 == 0 && (m == 0 && true))) = false → false = b)) ∧
                            ((op == 2) = false →
                              ((op == 12) = true →
                                  ((op == op && (0 == 0 && (0 == 0 && true))) = true →
                                      (decide (mm2 false n m ≥ 0) = true →
                                          (decide (mm2 true n m ≤ 9007199254740992) = true → true = b) ∧
                                            (decide (mm2 true n m ≤ 9007199254740992) = false → false = b)) ∧
                                        (decide (mm2 false n m ≥ 0) = false → false = b)) ∧
                                    ((op == op && (0 == 0 && (0 == 0 && true))) = false → false = b)) ∧
                                ((op == 12) = false →
                                  ((op == op && (n == 0 && (m == 0 && true))) = true →
                                      (decide (mm2 false n m ≥ 0) = true →
                                          (decide (mm2 true n m ≤ 0) = true → true = b) ∧
                                            (decide (mm2 true n m ≤ 0) = false → false = b)) ∧
                                        (decide (mm2 false n m ≥ 0) = false → false = b)) ∧
                                    ((op == op && (n == 0 && (m == 0 && true))) = false → false = b))))))))
  ) := by kernel_rfl
--@end
--@cond effect | 33 | F1 | 400 | (op : Int) | [.int false .i64 op] | (p q : Int) | .tup [.int false .i64 p, .int false .i64 q]
theorem cond_effect (op : Int) (p q : Int) : callF E F1 (vc E F1 400) 33 [.int false .i64 op] hp0 0 (fun r => ret E (patch hp0 0 r) r.v (.tup [.int false .i64 p, .int false .i64 q])) = (
  ((op == 1) = true → 0 = p ∧ 1 = q ∧ True) ∧
    ((op == 1) = false →
      ((op == 2) = true → 0 = p ∧ 1 = q ∧ True) ∧
        ((op == 2) = false →
          ((op == 12) = true → 1 = p ∧ 1 = q ∧ True) ∧
            ((op == 12) = false →
              ((op == 13) = true → 1 = p ∧ 0 = q ∧ True) ∧
                ((op == 13) = false →
                  ((op == 15) = true → 1 = p ∧ 0 = q ∧ True) ∧
                    ((op == 15) = false →
                      ((op == 14) = true → 0 = p ∧ 0 = q ∧ True) ∧
                        ((op == 14) = false →
                          ((op == 16) = true → 0 = p ∧ 0 = q ∧ True) ∧ ((op == 16) = false → 2 = p ∧ 1 = q ∧ True)))))))
  ) := by kernel_rfl
--@end
--@cond needs | 47 | F1 | 400 | (op : Int) | [.int false .i64 op] | (p : Int) | .int false .i64 p
theorem cond_needs (op : Int) (p : Int) : callF E F1 (vc E F1 400) 47 [.int false .i64 op] hp0 0 (fun r => ret E (patch hp0 0 r) r.v (.int false .i64 p)) = (
  ((op == 12) = true → 1 = p) ∧
    ((op == 12) = false →
      ((op == 13) = true → 1 = p) ∧
        ((op == 13) = false →
          ((op == 15) = true → 1 = p) ∧
            ((op == 15) = false →
              ((op == ↑3) = true → 2 = p) ∧
                ((op == ↑3) = false →
                  ((op == ↑4) = true → 2 = p) ∧
                    ((op == ↑4) = false →
                      ((op == ↑5) = true → 2 = p) ∧
                        ((op == ↑5) = false →
                          ((op == ↑6) = true → 2 = p) ∧
                            ((op == ↑6) = false →
                              ((op == ↑7) = true → 2 = p) ∧
                                ((op == ↑7) = false →
                                  ((op == ↑8) = true → 2 = p) ∧
                                    ((op == ↑8) = false →
                                      ((op == ↑9) = true → 2 = p) ∧
                                        ((op == ↑9) = false →
                                          ((op == ↑10) = true → 2 = p) ∧
                                            ((op == ↑10) = false →
                                              ((op == ↑11) = true → 2 = p) ∧ ((op == ↑11) = false → 0 = p))))))))))))
  ) := by kernel_rfl
--@end
--@cond rformed | 52 | F1 | 400 | (op n m : Int) | [.agg [.int false .i64 op, .int false .i64 n, .int false .i64 m]] | (b : Bool) | .bool false b
theorem cond_rformed (op n m : Int) (b : Bool) : callF E F1 (vc E F1 400) 52 [.agg [.int false .i64 op, .int false .i64 n, .int false .i64 m]] hp0 0 (fun r => ret E (patch hp0 0 r) r.v (.bool false b)) = (
  ((op == 1) = true →
      (decide (n ≥ 0) = true →
          (decide (n ≤ 9007199254740992) = true → ((m == 0) = true → true = b) ∧ ((m == 0) = false → false = b)) ∧
            (decide (n ≤ 9007199254740992) = false → false = b)) ∧
        (decide (n ≥ 0) = false → false = b)) ∧
    ((op == 1) = false →
      ((op == 13) = true →
          (decide (n ≥ 0) = true →
              (decide (n ≤ 9007199254740992) = true → ((m == 0) = true → true = b) ∧ ((m == 0) = false → false = b)) ∧
                (decide (n ≤ 9007199254740992) = false → false = b)) ∧
            (decide (n ≥ 0) = false → false = b)) ∧
        ((op == 13) = false →
          ((op == 14) = true →
              (decide (n ≥ 0) = true →
                  (decide (n ≤ 9007199254740992) = true → ((m == 0) = true → true = b) ∧ ((m == 0) = false → false = b)) ∧
                    (decide (n ≤ 9007199254740992) = false → false = b)) ∧
                (decide (n ≥ 0) = false → false = b)) ∧
            ((op == 14) = false →
              ((op == 15) = true →
                  (decide (n ≥ 0) = true →
                      (decide (n ≤ 9007199254740992) = true →
                          ((m == 0) = true → true = b) ∧ ((m == 0) = false → false = b)) ∧
                        (decide (n ≤ 9007199254740992) = false → false = b)) ∧
                    (decide (n ≥ 0) = false → false = b)) ∧
                ((op == 15) = false →
                  ((op == 2) = true →
                      (decide (n ≥ 0) = true →
                          (decide (n ≤ 15) = true → ((m == 0) = true → true = b) ∧ ((m == 0) = false → false = b)) ∧
                            (decide (n ≤ 15) = false → false = b)) ∧
                        (decide (n ≥ 0) = false → false = b)) ∧
                    ((op == 2) = false →
                      ((op == 12) = true →
                          (decide (n ≥ 0) = true →
                              (decide (n ≤ 9007199254740992) = true →
                                  (decide (m ≥ 0) = true →
                                      (decide (m ≤ 9007199254740992) = true → true = b) ∧
                                        (decide (m ≤ 9007199254740992) = false → false = b)) ∧
                                    (decide (m ≥ 0) = false → false = b)) ∧
                                (decide (n ≤ 9007199254740992) = false → false = b)) ∧
                            (decide (n ≥ 0) = false → false = b)) ∧
                        ((op == 12) = false →
                          (decide (op ≥ 3) = true →
                              (decide (op ≤ 16) = true →
                                  ((n == 0) = true → ((m == 0) = true → true = b) ∧ ((m == 0) = false → false = b)) ∧
                                    ((n == 0) = false → false = b)) ∧
                                (decide (op ≤ 16) = false → false = b)) ∧
                            (decide (op ≥ 3) = false → false = b)))))))
  ) := by kernel_rfl
--@end
--@cond rpops | 53 | F1 | 400 | (op : Int) | [.int false .i64 op] | (p q : Int) | .tup [.int false .i64 p, .int false .i64 q]
theorem cond_rpops (op : Int) (p q : Int) : callF E F1 (vc E F1 400) 53 [.int false .i64 op] hp0 0 (fun r => ret E (patch hp0 0 r) r.v (.tup [.int false .i64 p, .int false .i64 q])) = (
  ((op == 1) = true → 0 = p ∧ 1 = q ∧ True) ∧
    ((op == 1) = false →
      ((op == 2) = true → 0 = p ∧ 1 = q ∧ True) ∧
        ((op == 2) = false →
          ((op == 12) = true → 1 = p ∧ 1 = q ∧ True) ∧
            ((op == 12) = false →
              ((op == 13) = true → 1 = p ∧ 0 = q ∧ True) ∧
                ((op == 13) = false →
                  ((op == 15) = true → 1 = p ∧ 0 = q ∧ True) ∧
                    ((op == 15) = false →
                      ((op == 14) = true → 0 = p ∧ 0 = q ∧ True) ∧
                        ((op == 14) = false →
                          ((op == 16) = true → 0 = p ∧ 0 = q ∧ True) ∧ ((op == 16) = false → 2 = p ∧ 1 = q ∧ True)))))))
  ) := by kernel_rfl
--@end
--@cond rneeds | 24 | F1 | 400 | (op : Int) | [.int false .i64 op] | (p : Int) | .int false .i64 p
theorem cond_rneeds (op : Int) (p : Int) : callF E F1 (vc E F1 400) 24 [.int false .i64 op] hp0 0 (fun r => ret E (patch hp0 0 r) r.v (.int false .i64 p)) = (
  ∃ (Q : Bool → Prop),
    ((decide (op ≥ 3) = true → (decide (op ≤ 11) = true → Q true) ∧ (decide (op ≤ 11) = false → Q false)) ∧
        (decide (op ≥ 3) = false → Q false)) ∧
      (Q true → 2 = p) ∧
        (Q false →
          ∃ (Q : Bool → Prop),
            (((op == 12) = true → Q true) ∧
                ((op == 12) = false →
                  ((op == 13) = true → Q true) ∧
                    ((op == 13) = false → ((op == 15) = true → Q true) ∧ ((op == 15) = false → Q false)))) ∧
              (Q true → 1 = p) ∧ (Q false → 0 = p))
  ) := by kernel_rfl
--@end
--@cond rbinary | 71 | F1 | 400 | (op a b : Int) | [.int false .i64 op, .int false .i64 a, .int false .i64 b] | (p q : Int) | .tup [.int false .i64 p, .int false .i64 q]
theorem cond_rbinary (op a b : Int) (p q : Int) : callF E F1 (vc E F1 400) 71 [.int false .i64 op, .int false .i64 a, .int false .i64 b] hp0 0 (fun r => ret E (patch hp0 0 r) r.v (.tup [.int false .i64 p, .int false .i64 q])) = (
  ((op == 3) = true → True ∧ Prod.fst (addF a b) = p ∧ Prod.snd (addF a b) = q ∧ True) ∧
    ((op == 3) = false →
      ((op == 4) = true → True ∧ Prod.fst (subF a b) = p ∧ Prod.snd (subF a b) = q ∧ True) ∧
        ((op == 4) = false →
          ((op == 5) = true → True ∧ Prod.fst (mulF a b) = p ∧ Prod.snd (mulF a b) = q ∧ True) ∧
            ((op == 5) = false →
              ((op == 6) = true → mm2 false a b = p ∧ 0 = q ∧ True) ∧
                ((op == 6) = false →
                  ((op == 7) = true → mm2 true a b = p ∧ 0 = q ∧ True) ∧
                    ((op == 7) = false →
                      ((op == 8) = true → True ∧ Prod.fst (divF a b 8) = p ∧ Prod.snd (divF a b 8) = q ∧ True) ∧
                        ((op == 8) = false →
                          ((op == 9) = true → True ∧ Prod.fst (divF a b 9) = p ∧ Prod.snd (divF a b 9) = q ∧ True) ∧
                            ((op == 9) = false →
                              ((op == 10) = true →
                                  True ∧ Prod.fst (divF a b 10) = p ∧ Prod.snd (divF a b 10) = q ∧ True) ∧
                                ((op == 10) = false →
                                  (decide (a < b) = true → 1 = p ∧ 0 = q ∧ True) ∧
                                    (decide (a < b) = false → 0 = p ∧ 0 = q ∧ True)))))))))
  ) := by kernel_rfl
--@end
--@cond follow | 54 | F1 | 400 | (c : List Ins) (i : Int) | [.psl .ins c false, .int false .i64 i] | (l : List Int) | .psl .ints l false
theorem cond_follow (c : List Ins) (i : Int) (l : List Int) : callF E F1 (vc E F1 400) 54 [.psl .ins c false, .int false .i64 i] hp0 0 (fun r => ret E (patch hp0 0 r) r.v (.psl .ints l false)) = (
  0 ≤ i ∧
    i + 1 ≤ ↑(List.length c) ∧
      ∀ (x : Ins),
        c[Int.toNat i]? = some x →
          ((Ins.op x == 15) = true → l = []) ∧
            ((Ins.op x == 15) = false →
              ((Ins.op x == 16) = true → l = []) ∧
                ((Ins.op x == 16) = false →
                  ((Ins.op x == 14) = true →
                      0 ≤ i ∧ i + 1 ≤ ↑(List.length c) ∧ ∀ (x : Ins), c[Int.toNat i]? = some x → [Ins.n x] = l) ∧
                    ((Ins.op x == 14) = false →
                      ((Ins.op x == 13) = true →
                          0 ≤ i ∧
                            i + 1 ≤ ↑(List.length c) ∧
                              ∀ (x : Ins), c[Int.toNat i]? = some x → [wr IntKind.i64 (i + 1), Ins.n x] = l) ∧
                        ((Ins.op x == 13) = false → [wr IntKind.i64 (i + 1)] = l))))
  ) := by kernel_rfl
--@end
theorem formed_pure (x : Ins) : PureC E 31 [.agg [.int false .i64 x.op, .int false .i64 x.n, .int false .i64 x.m]] (.bool false (formedF x)) := by
  refine pure_of_call E_ok (callOk_of E_ok F1_ok 400) ?_
  rw [cond_formed]
  repeat' (first | exact JR_leaf _ | apply JR_ite | apply join_e | (refine And.intro ?_ ?_) | (intro h))
  all_goals (try simp only [bif_true, bif_false, bif_nt, bif_tf, bif_ft, Bool.or_eq_true, Bool.or_eq_false_iff, Bool.not_eq_true', Bool.not_eq_false', beq_iff_eq, bne_iff_ne, beq_eq_false_iff_ne, decide_eq_true_eq, decide_eq_false_iff_not, Bool.and_eq_true, Bool.and_true, Bool.true_and, Bool.and_eq_false_iff, beq_self_eq_true, mm2_max, mm2_min, ne_eq, and_true, true_and, Bool.true_eq_false, Bool.false_eq_true, false_or, or_false, true_implies, Int.ofNat_eq_natCast] at *)
  all_goals (try unfold formedF)
  all_goals (repeat' split)
  all_goals first | contradiction | omega | (symm; simp only [decide_eq_true_eq, decide_eq_false_iff_not]; omega)
theorem rformed_pure (x : Ins) : PureC E 52 [.agg [.int false .i64 x.op, .int false .i64 x.n, .int false .i64 x.m]] (.bool false (formedF x)) := by
  refine pure_of_call E_ok (callOk_of E_ok F1_ok 400) ?_
  rw [cond_rformed]
  simp only [beq_iff_eq, bne_iff_ne, beq_eq_false_iff_ne, decide_eq_true_eq, decide_eq_false_iff_not, Bool.and_eq_true, Bool.and_true, Bool.true_and, Bool.and_eq_false_iff, beq_self_eq_true, mm2_max, mm2_min, ne_eq, and_true, true_and, Bool.true_eq_false, Bool.false_eq_true, false_or, or_false, true_implies, Int.ofNat_eq_natCast]
  repeat' (first | (refine And.intro ?_ ?_) | (intro h))
  all_goals (try unfold formedF)
  all_goals (repeat' split)
  all_goals first | contradiction | omega | (symm; simp only [decide_eq_true_eq, decide_eq_false_iff_not]; omega)
theorem effect_pure (op : Int) : PureC E 33 [.int false .i64 op] (.tup [.int false .i64 (eff op).1, .int false .i64 (eff op).2]) := by
  refine pure_of_call E_ok (callOk_of E_ok F1_ok 400) ?_
  rw [cond_effect]
  simp only [beq_iff_eq, bne_iff_ne, beq_eq_false_iff_ne, decide_eq_true_eq, decide_eq_false_iff_not, Bool.and_eq_true, Bool.and_true, Bool.true_and, Bool.and_eq_false_iff, beq_self_eq_true, mm2_max, mm2_min, ne_eq, and_true, true_and, Bool.true_eq_false, Bool.false_eq_true, false_or, or_false, true_implies, Int.ofNat_eq_natCast]
  repeat' (first | (refine And.intro ?_ ?_) | (intro h))
  all_goals (unfold eff; repeat' split)
  all_goals first | contradiction | omega | rfl
theorem rpops_pure (op : Int) : PureC E 53 [.int false .i64 op] (.tup [.int false .i64 (eff op).1, .int false .i64 (eff op).2]) := by
  refine pure_of_call E_ok (callOk_of E_ok F1_ok 400) ?_
  rw [cond_rpops]
  simp only [beq_iff_eq, bne_iff_ne, beq_eq_false_iff_ne, decide_eq_true_eq, decide_eq_false_iff_not, Bool.and_eq_true, Bool.and_true, Bool.true_and, Bool.and_eq_false_iff, beq_self_eq_true, mm2_max, mm2_min, ne_eq, and_true, true_and, Bool.true_eq_false, Bool.false_eq_true, false_or, or_false, true_implies, Int.ofNat_eq_natCast]
  repeat' (first | (refine And.intro ?_ ?_) | (intro h))
  all_goals (unfold eff; repeat' split)
  all_goals first | contradiction | omega | rfl
theorem needs_pure (op : Int) : PureC E 47 [.int false .i64 op] (.int false .i64 (needsF op)) := by
  refine pure_of_call E_ok (callOk_of E_ok F1_ok 400) ?_
  rw [cond_needs]
  simp only [beq_iff_eq, bne_iff_ne, beq_eq_false_iff_ne, decide_eq_true_eq, decide_eq_false_iff_not, Bool.and_eq_true, Bool.and_true, Bool.true_and, Bool.and_eq_false_iff, beq_self_eq_true, mm2_max, mm2_min, ne_eq, and_true, true_and, Bool.true_eq_false, Bool.false_eq_true, false_or, or_false, true_implies, Int.ofNat_eq_natCast]
  repeat' (first | (refine And.intro ?_ ?_) | (intro h))
  all_goals (unfold needsF; repeat' split)
  all_goals first | contradiction | omega | rfl
theorem rneeds_pure (op : Int) : PureC E 24 [.int false .i64 op] (.int false .i64 (needsF op)) := by
  refine pure_of_call E_ok (callOk_of E_ok F1_ok 400) ?_
  rw [cond_rneeds]
  repeat' (first | exact JR_leaf _ | apply JR_ite | apply join_e | (refine And.intro ?_ ?_) | (intro h))
  all_goals (try simp only [bif_true, bif_false, bif_nt, bif_tf, bif_ft, Bool.or_eq_true, Bool.or_eq_false_iff, Bool.not_eq_true', Bool.not_eq_false', beq_iff_eq, bne_iff_ne, beq_eq_false_iff_ne, decide_eq_true_eq, decide_eq_false_iff_not, Bool.and_eq_true, Bool.and_true, Bool.true_and, Bool.and_eq_false_iff, beq_self_eq_true, mm2_max, mm2_min, ne_eq, and_true, true_and, Bool.true_eq_false, Bool.false_eq_true, false_or, or_false, true_implies, Int.ofNat_eq_natCast] at *)
  all_goals (try unfold needsF)
  all_goals (repeat' split)
  all_goals first | contradiction | omega | rfl
theorem rbinary_pure (op a b : Int) : PureC E 71 [.int false .i64 op, .int false .i64 a, .int false .i64 b] (.tup [.int false .i64 (binF op a b).1, .int false .i64 (binF op a b).2]) := by
  refine pure_of_call E_ok (callOk_of E_ok F1_ok 400) ?_
  rw [cond_rbinary]
  unfold binF
  simp only [bif_true, bif_false, bif_nt, bif_tf, bif_ft, beq_iff_eq, bne_iff_ne, beq_eq_false_iff_ne, bne_eq_false_iff_eq, decide_eq_true_eq, decide_eq_false_iff_not, Bool.or_eq_true, Bool.or_eq_false_iff, Bool.not_eq_true', Bool.not_eq_false', Bool.and_eq_true, Bool.and_true, Bool.true_and, Bool.and_eq_false_iff, beq_self_eq_true, mm2_max, mm2_min, ne_eq, and_true, true_and, Bool.true_eq_false, Bool.false_eq_true, false_or, or_false, true_implies, Int.ofNat_eq_natCast, not_true_eq_false, not_false_eq_true, Decidable.not_not]
  repeat' (first | exact JR_leaf _ | apply JR_ite | apply join_e | (refine And.intro ?_ ?_) | (intro h))
  all_goals simp [*]
def nextR (i : Int) (x : Ins) : List Int := if x.op = 15 ∨ x.op = 16 then [] else if x.op = 14 then [x.n] else if x.op = 13 then [i + 1, x.n] else [i + 1]
theorem follow_pure (c : List Ins) (i : Int) (x : Ins) (h0 : 0 ≤ i) (h1 : i < c.length) (h2 : c.length ≤ 4096) (hx : c[i.toNat]? = some x) : PureC E 54 [.psl .ins c false, .int false .i64 i] (.psl .ints (nextR i x) false) := by
  refine pure_of_call E_ok (callOk_of E_ok F1_ok 400) ?_
  rw [cond_follow]
  rw [wr64 (by omega) (by omega)]
  simp only [hx, Option.some.injEq, forall_eq']
  simp only [bif_true, bif_false, bif_nt, bif_tf, bif_ft, beq_iff_eq, bne_iff_ne, beq_eq_false_iff_ne, bne_eq_false_iff_eq, decide_eq_true_eq, decide_eq_false_iff_not, Bool.or_eq_true, Bool.or_eq_false_iff, Bool.not_eq_true', Bool.not_eq_false', Bool.and_eq_true, Bool.and_true, Bool.true_and, Bool.and_eq_false_iff, beq_self_eq_true, mm2_max, mm2_min, ne_eq, and_true, true_and, Bool.true_eq_false, Bool.false_eq_true, false_or, or_false, true_implies, Int.ofNat_eq_natCast, not_true_eq_false, not_false_eq_true, Decidable.not_not]
  unfold nextR
  repeat' (first | exact JR_leaf _ | apply JR_ite | apply join_e | (refine And.intro ?_ ?_) | (intro h))
  all_goals first | omega | simp [*]
end Go.Proofs.YtcaomfbcchemnaaDoor
