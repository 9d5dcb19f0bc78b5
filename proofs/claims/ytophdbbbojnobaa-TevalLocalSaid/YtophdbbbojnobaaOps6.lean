/- A statement in the text's order whose last operations need not wait for all the others. -/
import Derived.Test.YtophdbbbojnobaaOps
namespace Go.Proofs.Ytophdbbbojnobaa
open Go.RowKit
set_option linter.unusedVariables false
section
variable {P : Program} {Q : Exit → Act → World → Prop}
theorem obl_of_facts {a : Act} {W : World} {ops : List Oper} {n : Nat} {dsts : List (Option Tmp)} {PP : List (World → Value → Prop)} (hF : (ops.take n).map (·.dst) = dsts ∧ apartB (ops.take n) = true ∧ n ≤ ops.length ∧ (∀ d t, d ∈ dsts → d = some t → t < a.tmps.size) ∧ (∀ (v : Nat → Value), Sees dsts a v (putAll (ops.take n) 0 v a).eval) ∧ (∀ o ∈ ops.take n, ∀ g b, o.guard = some (g, b) → ∃ d, dsts[g]? = some (some d)))
    (hO : ObL P W dsts PP a (ops.take n) 0) : Obl P Q ops.toArray (ops.take n) (fun w => Ext W w) Ext (atP PP) a (ops.take n) 0 := by
  obtain ⟨hd, hap, hlt, hs, hS, hgd⟩ := hF
  have key : ∀ (r : List Oper) (k : Nat), (∀ i o, r[i]? = some o → (ops.take n)[k + i]? = some o) → Obl P Q ops.toArray (ops.take n) (fun w => Ext W w) Ext (atP PP) a r k := by
    intro r
    induction r with
    | nil => intro k _; exact Obl.nil
    | cons o r ih =>
      intro k hk
      refine ⟨?_, ih (k + 1) fun i p hp => by have := hk (i + 1) p (by simpa using hp); rwa [show k + (i + 1) = k + 1 + i by omega] at this⟩
      intro v w hR hdp K HK
      have ho : (ops.take n)[k]? = some o := by simpa using hk 0 o (by simp)
      have hyield : ∀ g b b', o.guard = some (g, b) → v g = .bool b' → yielded ops.toArray (putAll (ops.take n) 0 v a).tmps g = some b' := by
        intro g b b' hgs hv
        obtain ⟨d, hd1⟩ := hgd o (List.mem_of_getElem? ho) g b hgs
        have he := (hS v).v g d hd1
        rw [hv] at he
        have hdN : d < a.tmps.size := hs (some d) d (List.mem_of_getElem? hd1) rfl
        have hd2 : ((ops[g]?).bind (·.dst)) = some d := by
          rw [← hd, List.getElem?_map] at hd1
          obtain ⟨og, hog, hod⟩ := Option.map_eq_some_iff.1 hd1
          rw [List.getElem?_take] at hog
          split at hog
          · rw [hog]; exact hod
          · cases hog
        unfold yielded
        rw [show ops.toArray[g]? = ops[g]? by simp, hd2]
        have he' : (putAll (ops.take n) 0 v a).tmps.getD d undef = .bool b' := he
        rw [Array.getD_eq_getD_getElem?] at he'
        show (match (putAll (ops.take n) 0 v a).tmps[d]? with | some (.bool b) => some b | _ => none) = some b'
        have hd3 : d < (putAll (ops.take n) 0 v a).tmps.size := by rw [putAll_size]; exact hdN
        rw [Array.getElem?_eq_getElem hd3] at he' ⊢
        simp only [Option.getD_some] at he'
        rw [he']
      rcases hO.at_ ho with ⟨hg, h⟩ | hg
      · have hw : Region.wanted o (yielded ops.toArray (putAll (ops.take n) 0 v a).tmps) = true := by
          unfold Region.wanted
          split at hg
          · rename_i hgn; simp [hgn]
          · rename_i g b hgs
            rw [hgs]
            have := hyield g b b hgs (hg.2 _ _ (hdp g (by simpa using hg.1)))
            simp [this]
        rw [if_pos hw]
        have h' := h v (putAll (ops.take n) 0 v a).eval w hR (fun j hj => hdp j (by simpa using hj)) (hS v)
        rw [Nat.zero_add] at h'
        exact h'.wp fun u w' hF => HK u w' hF.1 hF.2
      · have hw : Region.wanted o (yielded ops.toArray (putAll (ops.take n) 0 v a).tmps) = false := by
          unfold Region.wanted
          split at hg
          · exact hg.elim
          · rename_i g b hgs
            rw [hgs]
            have := hyield g b (!b) hgs (hg.2.1 _ _ (hdp g (by simpa using hg.1)))
            simp only [this]
            cases b <;> rfl
        rw [if_neg (by rw [hw]; exact Bool.false_ne_true)]
        refine HK undef w (Ext.refl _) ?_
        split at hg
        · exact hg.elim
        · have := hg.2.2 w
          rwa [Nat.zero_add] at this
  exact key _ 0 fun i o h => by rwa [Nat.zero_add]

/-- The same where the order is the text's. -/
theorem wp_region_sq2 {id : Nat} {a : Act} {W : World} {ops : List Oper} (n : Nat) (dsts : List (Option Tmp)) (PP : List (World → Value → Prop)) (N : Nat) (hn : n ≤ ops.length) (hB : stB (ops.take n) n dsts N = true) (hN : a.tmps.size = N)
    (hst : AllSt PP) (hO : ObL P W dsts PP a (ops.take n) 0)
    (hend : ∀ (v : Nat → Value) (a' : Act) (w : World), Ext W w → (∀ j, j < n → atP PP j w (v j)) → Sees dsts a v a'.eval → a'.tmps.size = N → a'.defers = a.defers →
      wpList P ops.toArray Q (ops.drop n) a' w) : (Code.region id ops.toArray false).wp P Q a W := by
  refine wp_region_lit ?_
  have hF0 := stB_facts hB hN
  have htt : (ops.take n).take n = ops.take n := by rw [List.take_take, Nat.min_self]
  rw [htt] at hF0
  obtain ⟨hSB, hd, hap, _, hs, hS, hgd⟩ := hF0
  have hOb := obl_of_facts (Q := Q) ⟨hd, hap, hn, hs, hS, hgd⟩ hO
  simp only [stableB, Bool.and_eq_true, decide_eq_true_eq, List.all_eq_true, List.mem_range] at hSB
  obtain ⟨⟨⟨⟨_, _⟩, _⟩, hlow⟩, _⟩ := hSB
  have key : ∀ (m k : Nat), n - k = m → k ≤ n → ∀ (v : Nat → Value) (w : World), Ext W w → (∀ j, j < k → atP PP j w (v j)) → wpList P ops.toArray Q (ops.drop k) (putAll (ops.take n) 0 v a) w := by
    intro m
    induction m with
    | zero =>
      intro k hm hk v w hR hPP
      obtain rfl : k = n := by omega
      exact hend v _ w hR hPP (hS v) (by rw [putAll_size, hN]) (putAll_defers _ _ _ _)
    | succ m ih =>
      intro k hm hk v w hR hPP
      have hkl : k < ops.length := by omega
      rw [List.drop_eq_getElem_cons hkl]
      have htk : (ops.take n)[k]? = some ops[k] := by rw [List.getElem?_take, if_pos (by omega)]; exact List.getElem?_eq_getElem hkl
      refine wpList_step fun K hK => ?_
      refine hOb.at_ htk v w hR ?_ K ?_
      · intro j hj
        have hj' : j ∈ (ops[k].after.toList.filter (Region.binds .any)).map (·.on) := by unfold waits at hj; simpa using hj
        obtain ⟨e, he, rfl⟩ := List.mem_map.1 hj'
        obtain ⟨he1, he2⟩ := List.mem_filter.1 he
        obtain ⟨i, hi, rfl⟩ := List.getElem_of_mem he1
        have hi' : i < ops[k].after.size := by simpa using hi
        have hlj := hlow k (by omega)
        rw [htk] at hlj
        simp only [Option.map_some, Option.getD_some, Array.all_eq_true, Bool.or_eq_true, Bool.not_eq_true', decide_eq_true_eq] at hlj
        refine hPP _ ?_
        rcases hlj i hi' with h | h
        · rw [show ops[k].after[i] = ops[k].after.toList[i] by simp] at h; rw [h] at he2; cases he2
        · rw [show ops[k].after.toList[i] = ops[k].after[i] by simp]; exact h
      · intro u w' hTw hPu
        rw [Nat.zero_add] at hPu
        refine hK _ _ ?_
        rw [putAll_upd u (ops.take n) 0 k v a ops[k] hap htk, Nat.zero_add]
        refine ih (k + 1) (by omega) (by omega) _ _ (hR.trans hTw) ?_
        intro j hj
        by_cases h : j = k
        · subst h; simpa [upd] using hPu
        · simp only [upd, if_neg h]
          exact hst.at_ j _ _ _ hTw (hPP j (by omega))
  have := key n 0 (by omega) (by omega) (here (ops.take n) a) W (Ext.refl _) (fun j hj => absurd hj (by omega))
  rwa [putAll_here, List.drop_zero] at this

end
end Go.Proofs.Ytophdbbbojnobaa
