/- Operations by themselves: each leaves a value with a fact that stays; a statement made of such operations, whatever its order. The frame stays abstract. -/
import Derived.Test.YtophdbbbojnobaaStable
namespace Go.Proofs.Ytophdbbbojnobaa
open Go.RowKit
set_option linter.unusedVariables false

/-- An operation leaves a value, and a world, of which F holds. -/
def OpPost (P : Program) (o : Oper) (ρ : Operand → Value) (w : World) (F : Value → World → Prop) : Prop :=
  match (execOp ρ o).run P w with
  | .ok (.value v) w' => F v w'
  | .ok .skip w' => F undef w'
  | .ok (.enter f args) w' => Calls P f args w' fun en w'' => ∃ v, en = .returned v ∧ F v w''
  | _ => False

theorem OpPost.mono {P : Program} {o : Oper} {ρ : Operand → Value} {w : World} {F F' : Value → World → Prop} (h : OpPost P o ρ w F) (k : ∀ u w', F u w' → F' u w') : OpPost P o ρ w F' := by
  unfold OpPost at h ⊢
  split at h
  · exact k _ _ h
  · exact k _ _ h
  · exact h.mono fun en w'' ⟨v, he, hF⟩ => ⟨v, he, k _ _ hF⟩
  · exact h.elim

theorem OpPost.wp {P : Program} {o : Oper} {a : Act} {w : World} {F : Value → World → Prop} {K : Act → World → Prop} {Q : Exit → Act → World → Prop} (h : OpPost P o a.eval w F) (k : ∀ u w', F u w' → K (a.put o.dst u) w') : o.wp P a w K Q := by
  unfold OpPost at h
  unfold Oper.wp
  split at h
  · rename_i v w' he; rw [he]; exact k _ _ h
  · rename_i w' he; rw [he]; exact k _ _ h
  · rename_i f args w' he
    rw [he]
    rw [Oper.upon_enter]
    refine h.mono ?_
    rintro en w'' ⟨v, rfl, hF⟩
    exact k _ _ hF
  · exact h.elim

/-- A fact that stays. -/
def St (p : World → Value → Prop) : Prop := ∀ w w' u, Ext w w' → p w u → p w' u
def AllSt : List (World → Value → Prop) → Prop
  | [] => True
  | p :: r => St p ∧ AllSt r
def atP (PP : List (World → Value → Prop)) (j : Nat) : World → Value → Prop := PP.getD j fun _ _ => True
theorem AllSt.at_ {PP : List (World → Value → Prop)} (h : AllSt PP) (j : Nat) : St (atP PP j) := by
  induction PP generalizing j with
  | nil => intro _ _ _ _ _; exact trivial
  | cons p r ih =>
    cases j with
    | zero => exact h.1
    | succ j => exact ih h.2 j
/-- The value is c. -/
def Is (c : Value) : World → Value → Prop := fun _ u => u = c
theorem Is.st (c : Value) : St (Is c) := fun _ _ _ _ h => h
def Any : World → Value → Prop := fun _ _ => True
theorem Any.st : St Any := fun _ _ _ _ h => h
theorem AllSt.nil : AllSt [] := trivial
theorem AllSt.cons {p : World → Value → Prop} {r : List (World → Value → Prop)} (h : St p) (k : AllSt r) : AllSt (p :: r) := ⟨h, k⟩

/-- What an operation sees: what the statement's operations have left, and, elsewhere, the frame before. -/
structure Sees (dsts : List (Option Tmp)) (a0 : Act) (v : Nat → Value) (ρ : Operand → Value) : Prop where
  c : ∀ x, ρ (.const x) = x
  f : ∀ f, ρ (.func f) = .func (.func f) #[] #[]
  g : ∀ g, ρ (.global g) = .pointer (some ⟨g, 0, none⟩)
  v : ∀ j d, dsts[j]? = some (some d) → ρ (.tmp d) = v j
  o : ∀ t, dsts.contains (some t) = false → ρ (.tmp t) = a0.eval (.tmp t)

/-- What is to be shown of each operation: it runs and leaves a value with its fact; or its guard shuts it out. -/
def ObOne (P : Program) (W : World) (dsts : List (Option Tmp)) (PP : List (World → Value → Prop)) (a0 : Act) (o : Oper) (i : Nat) : Prop :=
  ((match o.guard with | none => True | some (g, b) => (waits o).contains g = true ∧ ∀ w u, atP PP g w u → u = .bool b) ∧
      ∀ (v : Nat → Value) (ρ : Operand → Value) (w : World), Ext W w → (∀ j, (waits o).contains j = true → atP PP j w (v j)) → Sees dsts a0 v ρ → OpPost P o ρ w (fun u w' => Ext w w' ∧ atP PP i w' u)) ∨
  (match o.guard with | none => False | some (g, b) => (waits o).contains g = true ∧ (∀ w u, atP PP g w u → u = .bool (!b)) ∧ ∀ w, atP PP i w undef)
def ObL (P : Program) (W : World) (dsts : List (Option Tmp)) (PP : List (World → Value → Prop)) (a0 : Act) : List Oper → Nat → Prop
  | [], _ => True
  | o :: r, i => ObOne P W dsts PP a0 o i ∧ ObL P W dsts PP a0 r (i + 1)
theorem ObL.nil {P : Program} {W : World} {dsts : List (Option Tmp)} {PP : List (World → Value → Prop)} {a0 : Act} {i : Nat} : ObL P W dsts PP a0 [] i := trivial
theorem ObL.cons {P : Program} {W : World} {dsts : List (Option Tmp)} {PP : List (World → Value → Prop)} {a0 : Act} {o : Oper} {r : List Oper} {i : Nat}
    (hg : match o.guard with | none => True | some (g, b) => (waits o).contains g = true ∧ ∀ w u, atP PP g w u → u = .bool b)
    (h : ∀ (v : Nat → Value) (ρ : Operand → Value) (w : World), Ext W w → (∀ j, (waits o).contains j = true → atP PP j w (v j)) → Sees dsts a0 v ρ → OpPost P o ρ w (fun u w' => Ext w w' ∧ atP PP i w' u)) (k : ObL P W dsts PP a0 r (i + 1)) : ObL P W dsts PP a0 (o :: r) i := ⟨.inl ⟨hg, h⟩, k⟩
theorem ObL.skip {P : Program} {W : World} {dsts : List (Option Tmp)} {PP : List (World → Value → Prop)} {a0 : Act} {o : Oper} {r : List Oper} {i : Nat}
    (hg : match o.guard with | none => False | some (g, b) => (waits o).contains g = true ∧ (∀ w u, atP PP g w u → u = .bool (!b)) ∧ ∀ w, atP PP i w undef) (k : ObL P W dsts PP a0 r (i + 1)) : ObL P W dsts PP a0 (o :: r) i := ⟨.inr hg, k⟩
theorem ObL.at_ {P : Program} {W : World} {dsts : List (Option Tmp)} {PP : List (World → Value → Prop)} {a0 : Act} : ∀ {r : List Oper} {k : Nat}, ObL P W dsts PP a0 r k → ∀ {i : Nat} {o : Oper}, r[i]? = some o → ObOne P W dsts PP a0 o (k + i) := by
  intro r
  induction r with
  | nil => intro k _ i o h; simp at h
  | cons p r ih =>
    intro k hO i o h
    cases i with
    | zero =>
      obtain rfl : p = o := by simpa using h
      exact hO.1
    | succ i =>
      have := ih hO.2 (i := i) (o := o) (by simpa using h)
      rwa [show k + 1 + i = k + (i + 1) by omega] at this

theorem putAll_size : ∀ (r : List Oper) (k : Nat) (v : Nat → Value) (a : Act), (putAll r k v a).tmps.size = a.tmps.size := by
  intro r
  induction r with
  | nil => intro k v a; rfl
  | cons o r ih =>
    intro k v a
    show (putAll r (k + 1) v (a.put o.dst (v k))).tmps.size = _
    rw [ih]
    cases o.dst <;> simp [Act.put]
theorem putAll_defers : ∀ (r : List Oper) (k : Nat) (v : Nat → Value) (a : Act), (putAll r k v a).defers = a.defers := by
  intro r
  induction r with
  | nil => intro k v a; rfl
  | cons o r ih =>
    intro k v a
    show (putAll r (k + 1) v (a.put o.dst (v k))).defers = _
    rw [ih]
    cases o.dst <;> simp [Act.put]
theorem put_other (a : Act) (d : Option Tmp) (v : Value) (t : Tmp) (h : d ≠ some t) : (a.put d v).tmps[t]? = a.tmps[t]? := by
  cases d with
  | none => rfl
  | some d =>
    have : d ≠ t := fun h' => h (by rw [h'])
    simp only [Act.put, Array.getElem?_setIfInBounds, if_neg this]
theorem putAll_other (t : Tmp) : ∀ (r : List Oper) (k : Nat) (v : Nat → Value) (a : Act), (∀ p ∈ r, p.dst ≠ some t) → (putAll r k v a).tmps[t]? = a.tmps[t]? := by
  intro r
  induction r with
  | nil => intro k v a _; rfl
  | cons o r ih =>
    intro k v a h
    show (putAll r (k + 1) v (a.put o.dst (v k))).tmps[t]? = _
    rw [ih _ _ _ fun p hp => h p (by simp [hp])]
    exact put_other a o.dst _ t (h o (by simp))
theorem putAll_at (t : Tmp) : ∀ (r : List Oper) (k i : Nat) (v : Nat → Value) (a : Act) (o : Oper), apartB r = true → r[i]? = some o → o.dst = some t → t < a.tmps.size → (putAll r k v a).tmps[t]? = some (v (k + i)) := by
  intro r
  induction r with
  | nil => intro k i v a o _ h; simp at h
  | cons p r ih =>
    intro k i v a o hB h hd hs
    simp only [apartB, Bool.and_eq_true] at hB
    show (putAll r (k + 1) v (a.put p.dst (v k))).tmps[t]? = _
    cases i with
    | zero =>
      obtain rfl : p = o := by simpa using h
      rw [putAll_other t _ _ _ _ ?_, hd]
      · simp [Act.put, hs]
      · intro q hq
        have := hB.1
        rw [hd] at this
        simpa using (List.all_eq_true.1 this) q hq
    | succ i =>
      rw [ih (k + 1) i v _ o hB.2 (by simpa using h) hd ?_, show k + 1 + i = k + (i + 1) by omega]
      cases p.dst <;> simpa [Act.put] using hs

def stB (ops : List Oper) (n : Nat) (dsts : List (Option Tmp)) (N : Nat) : Bool :=
  stableB ops n && decide ((ops.take n).map (·.dst) = dsts) && (dsts.all fun d => match d with | none => true | some t => decide (t < N)) &&
  (ops.take n).all fun o => match o.guard with | none => true | some (g, _) => (match dsts[g]? with | some (some _) => true | _ => false)

section
variable {P : Program} {Q : Exit → Act → World → Prop}

theorem stB_facts {ops : List Oper} {n : Nat} {dsts : List (Option Tmp)} {N : Nat} {a : Act} (hB : stB ops n dsts N = true) (hN : a.tmps.size = N) :
    stableB ops n = true ∧ (ops.take n).map (·.dst) = dsts ∧ apartB (ops.take n) = true ∧ n ≤ ops.length ∧ (∀ d t, d ∈ dsts → d = some t → t < a.tmps.size) ∧
    (∀ (v : Nat → Value), Sees dsts a v (putAll (ops.take n) 0 v a).eval) ∧ (∀ o ∈ ops.take n, ∀ g b, o.guard = some (g, b) → ∃ d, dsts[g]? = some (some d)) := by
  simp only [stB, Bool.and_eq_true, decide_eq_true_eq, List.all_eq_true] at hB
  obtain ⟨⟨⟨hB, hd⟩, hs⟩, hgd⟩ := hB
  have hap : apartB (ops.take n) = true := by simp only [stableB, Bool.and_eq_true] at hB; exact hB.1.1.1.1
  have hlt : n ≤ ops.length := by simp only [stableB, Bool.and_eq_true, decide_eq_true_eq] at hB; exact hB.1.1.1.2
  refine ⟨hB, hd, hap, hlt, ?_, fun v => ⟨fun _ => rfl, fun _ => rfl, fun _ => rfl, ?_, ?_⟩, ?_⟩
  · rintro d t hm rfl
    have := hs (some t) hm
    rw [hN]; simpa using this
  · intro j d hj
    have hsz : d < a.tmps.size := by
      have := hs (some d) (List.mem_of_getElem? hj)
      rw [hN]; simpa using this
    rw [← hd, List.getElem?_map] at hj
    obtain ⟨o, ho, hod⟩ := Option.map_eq_some_iff.1 hj
    have := putAll_at d (ops.take n) 0 j v a o hap ho hod hsz
    show (putAll (ops.take n) 0 v a).tmps.getD d undef = _
    rw [Array.getD_eq_getD_getElem?, this, Nat.zero_add]
    rfl
  · intro t ht
    show (putAll (ops.take n) 0 v a).tmps.getD t undef = a.tmps.getD t undef
    rw [Array.getD_eq_getD_getElem?, Array.getD_eq_getD_getElem?, putAll_other t]
    intro p hp h
    have hm : some t ∈ dsts := by rw [← hd, ← h]; exact List.mem_map_of_mem hp
    have : dsts.contains (some t) = true := by simpa using hm
    rw [ht] at this; cases this
  · intro o ho g b hg
    have hgk := hgd o ho
    rw [hg] at hgk
    simp only at hgk
    split at hgk
    · rename_i d hd1; exact ⟨d, hd1⟩
    · cases hgk

theorem obl_of_ObL {a : Act} {W : World} {ops : List Oper} {n : Nat} {dsts : List (Option Tmp)} {PP : List (World → Value → Prop)} {N : Nat} (hB : stB ops n dsts N = true) (hN : a.tmps.size = N)
    (hO : ObL P W dsts PP a (ops.take n) 0) : Obl P Q ops.toArray (ops.take n) (fun w => Ext W w) Ext (atP PP) a (ops.take n) 0 := by
  obtain ⟨hB, hd, hap, hlt, hs, hS, hgd⟩ := stB_facts hB hN
  have key : ∀ (r : List Oper) (k : Nat), (∀ i o, r[i]? = some o → (ops.take n)[k + i]? = some o) → Obl P Q ops.toArray (ops.take n) (fun w => Ext W w) Ext (atP PP) a r k := by
    intro r
    induction r with
    | nil => intro k _; exact Obl.nil
    | cons o r ih =>
      intro k hk
      refine ⟨?_, ih (k + 1) fun i p hp => by have := hk (i + 1) p (by simpa using hp); rwa [show k + (i + 1) = k + 1 + i by omega] at this⟩
      intro v w hR hdp K HK
      have ho : (ops.take n)[k]? = some o := by simpa using hk 0 o (by simp)
      have hyield : ∀ g b b', o.guard = some (g, b) → v g = .bool b' → yielded ops.toArray (putAll (ops.take n) 0 v a).tmps g = some b' := by
        intro g b b' hgs hv
        obtain ⟨d, hd1⟩ := hgd o (List.mem_of_getElem? ho) g b hgs
        have he := (hS v).v g d hd1
        rw [hv] at he
        have hdN : d < a.tmps.size := hs (some d) d (List.mem_of_getElem? hd1) rfl
        have hd2 : ((ops[g]?).bind (·.dst)) = some d := by
          rw [← hd, List.getElem?_map] at hd1
          obtain ⟨og, hog, hod⟩ := Option.map_eq_some_iff.1 hd1
          rw [List.getElem?_take] at hog
          split at hog
          · rw [hog]; exact hod
          · cases hog
        unfold yielded
        rw [show ops.toArray[g]? = ops[g]? by simp, hd2]
        have he' : (putAll (ops.take n) 0 v a).tmps.getD d undef = .bool b' := he
        rw [Array.getD_eq_getD_getElem?] at he'
        show (match (putAll (ops.take n) 0 v a).tmps[d]? with | some (.bool b) => some b | _ => none) = some b'
        have hd3 : d < (putAll (ops.take n) 0 v a).tmps.size := by rw [putAll_size]; exact hdN
        rw [Array.getElem?_eq_getElem hd3] at he' ⊢
        simp only [Option.getD_some] at he'
        rw [he']
      rcases hO.at_ ho with ⟨hg, h⟩ | hg
      · have hw : Region.wanted o (yielded ops.toArray (putAll (ops.take n) 0 v a).tmps) = true := by
          unfold Region.wanted
          split at hg
          · rename_i hgn; simp [hgn]
          · rename_i g b hgs
            rw [hgs]
            have := hyield g b b hgs (hg.2 _ _ (hdp g (by simpa using hg.1)))
            simp [this]
        rw [if_pos hw]
        have h' := h v (putAll (ops.take n) 0 v a).eval w hR (fun j hj => hdp j (by simpa using hj)) (hS v)
        rw [Nat.zero_add] at h'
        exact h'.wp fun u w' hF => HK u w' hF.1 hF.2
      · have hw : Region.wanted o (yielded ops.toArray (putAll (ops.take n) 0 v a).tmps) = false := by
          unfold Region.wanted
          split at hg
          · exact hg.elim
          · rename_i g b hgs
            rw [hgs]
            have := hyield g b (!b) hgs (hg.2.1 _ _ (hdp g (by simpa using hg.1)))
            simp only [this]
            cases b <;> rfl
        rw [if_neg (by rw [hw]; exact Bool.false_ne_true)]
        refine HK undef w (Ext.refl _) ?_
        split at hg
        · exact hg.elim
        · have := hg.2.2 w
          rwa [Nat.zero_add] at this
  exact key _ 0 fun i o h => by rwa [Nat.zero_add]

theorem wp_region_st {id : Nat} {a : Act} {W : World} {ops : List Oper} (n : Nat) (dsts : List (Option Tmp)) (PP : List (World → Value → Prop)) (N : Nat) (hm : P.follows .mixedOrders = true) (hB : stB ops n dsts N = true) (hN : a.tmps.size = N)
    (hst : AllSt PP) (hO : ObL P W dsts PP a (ops.take n) 0)
    (hend : ∀ (v : Nat → Value) (a' : Act) (w : World), Ext W w → (∀ j, j < n → atP PP j w (v j)) → Sees dsts a v a'.eval → a'.tmps.size = N → a'.defers = a.defers →
      wpAny P .any ops.toArray Q (ops.length - n) (doneB ops.length n) a' w) : (Code.region id ops.toArray true).wp P Q a W := by
  have hF := stB_facts hB hN
  refine wp_region_stable n (fun w => Ext W w) Ext (atP PP) hm hF.1 (Ext.refl _).drew (fun w w' h k => h.trans k) (fun j w w' u hx h => hst.at_ j w w' u hx h) (obl_of_ObL hB hN hO) ?_
  intro v w hR hPP
  exact hend v _ w hR hPP (hF.2.2.2.2.2.1 v) (by rw [putAll_size, hN]) (putAll_defers _ _ _ _)

/-- The same where the order is the text's. -/
theorem wp_region_sq {id : Nat} {a : Act} {W : World} {ops : List Oper} (n : Nat) (dsts : List (Option Tmp)) (PP : List (World → Value → Prop)) (N : Nat) (hB : stB ops n dsts N = true) (hN : a.tmps.size = N)
    (hst : AllSt PP) (hO : ObL P W dsts PP a (ops.take n) 0)
    (hend : ∀ (v : Nat → Value) (a' : Act) (w : World), Ext W w → (∀ j, j < n → atP PP j w (v j)) → Sees dsts a v a'.eval → a'.tmps.size = N → a'.defers = a.defers →
      wpList P ops.toArray Q (ops.drop n) a' w) : (Code.region id ops.toArray false).wp P Q a W := by
  refine wp_region_lit ?_
  obtain ⟨hSB, hd, hap, hlt, hs, hS, hgd⟩ := stB_facts hB hN
  have hOb := obl_of_ObL (Q := Q) hB hN hO
  simp only [stableB, Bool.and_eq_true, decide_eq_true_eq, List.all_eq_true, List.mem_range] at hSB
  obtain ⟨⟨⟨⟨_, _⟩, _⟩, hlow⟩, _⟩ := hSB
  have key : ∀ (m k : Nat), n - k = m → k ≤ n → ∀ (v : Nat → Value) (w : World), Ext W w → (∀ j, j < k → atP PP j w (v j)) → wpList P ops.toArray Q (ops.drop k) (putAll (ops.take n) 0 v a) w := by
    intro m
    induction m with
    | zero =>
      intro k hm hk v w hR hPP
      obtain rfl : k = n := by omega
      exact hend v _ w hR hPP (hS v) (by rw [putAll_size, hN]) (putAll_defers _ _ _ _)
    | succ m ih =>
      intro k hm hk v w hR hPP
      have hkl : k < ops.length := by omega
      rw [List.drop_eq_getElem_cons hkl]
      have htk : (ops.take n)[k]? = some ops[k] := by rw [List.getElem?_take, if_pos (by omega)]; exact List.getElem?_eq_getElem hkl
      refine wpList_step fun K hK => ?_
      refine hOb.at_ htk v w hR ?_ K ?_
      · intro j hj
        have hj' : j ∈ (ops[k].after.toList.filter (Region.binds .any)).map (·.on) := by unfold waits at hj; simpa using hj
        obtain ⟨e, he, rfl⟩ := List.mem_map.1 hj'
        obtain ⟨he1, he2⟩ := List.mem_filter.1 he
        obtain ⟨i, hi, rfl⟩ := List.getElem_of_mem he1
        have hi' : i < ops[k].after.size := by simpa using hi
        have hlj := hlow k (by omega)
        rw [show ops[k]? = some ops[k] from List.getElem?_eq_getElem hkl] at hlj
        simp only [Option.map_some, Option.getD_some, Array.all_eq_true, Bool.or_eq_true, Bool.not_eq_true', decide_eq_true_eq] at hlj
        refine hPP _ ?_
        rcases hlj i hi' with h | h
        · rw [show ops[k].after[i] = ops[k].after.toList[i] by simp] at h; rw [h] at he2; cases he2
        · rw [show ops[k].after.toList[i] = ops[k].after[i] by simp]; exact h
      · intro u w' hTw hPu
        rw [Nat.zero_add] at hPu
        refine hK _ _ ?_
        rw [putAll_upd u (ops.take n) 0 k v a ops[k] hap htk, Nat.zero_add]
        refine ih (k + 1) (by omega) (by omega) _ _ (hR.trans hTw) ?_
        intro j hj
        by_cases h : j = k
        · subst h; simpa [upd] using hPu
        · simp only [upd, if_neg h]
          exact hst.at_ j _ _ _ hTw (hPP j (by omega))
  have := key n 0 (by omega) (by omega) (here (ops.take n) a) W (Ext.refl _) (fun j hj => absurd hj (by omega))
  rwa [putAll_here, List.drop_zero] at this

/-! The kinds of operations. -/
theorem post_value {o : Oper} {ρ : Operand → Value} {w w' : World} {u : Value} {F : Value → World → Prop} (h : (execOp ρ o).run P w = .ok (.value u) w') (hF : F u w') : OpPost P o ρ w F := by
  unfold OpPost; rw [h]; exact hF
theorem post_skip {o : Oper} {ρ : Operand → Value} {w w' : World} {F : Value → World → Prop} (h : (execOp ρ o).run P w = .ok .skip w') (hF : F undef w') : OpPost P o ρ w F := by
  unfold OpPost; rw [h]; exact hF
theorem post_enter {o : Oper} {ρ : Operand → Value} {w w' : World} {f : FuncId} {args : Array Value} {F : Value → World → Prop} (h : (execOp ρ o).run P w = .ok (.enter f args) w') {Post : Ending → World → Prop} (hc : Calls P f args w' Post) (hF : ∀ en w'', Post en w'' → ∃ v, en = .returned v ∧ F v w'') : OpPost P o ρ w F := by
  unfold OpPost; rw [h]; exact hc.mono hF
theorem post_load {o : Oper} {ρ : Operand → Value} {w : World} {F : Value → World → Prop} (ty : TypeId) (x : Operand) (ho : o.op = .load ty x)
    (b n : Nat) (hx : ρ x = .pointer (some ⟨b, n, none⟩)) (cs : List Value) (d : TypeDesc) (hc : w.rangeAt b n cs)
    (hu : P.underlying ty = some d) (hd : d.isRow = true) (hi : (P.info? ty).map (·.size) = some cs.length) (hF : F (.agg cs.toArray) w) : OpPost P o ρ w F := by
  refine post_value (u := .agg cs.toArray) (w' := w) ?_ hF
  unfold execOp
  simp only [ho, hx, Instr.loadAt, Instr.sureAddr, Sem.run_bind, Sem.run_pure, Result.andThen_ok, run_loadVar_mid w b n ty cs d hc hu hd hi]
theorem post_move {o : Oper} {ρ : Operand → Value} {w : World} {F : Value → World → Prop} (x : Operand) (ho : o.op = .move x ∨ o.op = .assign x) (hF : F (ρ x) w) : OpPost P o ρ w F := by
  refine post_value (u := ρ x) (w' := w) ?_ hF
  unfold execOp
  rcases ho with ho | ho <;> simp only [ho, Sem.run_pure]
theorem post_pick {o : Oper} {ρ : Operand → Value} {w : World} {F : Value → World → Prop} (c x y : Operand) (b : Bool) (ho : o.op = .pick c x y) (hc : ρ c = .bool b) (hF : F (if b then ρ x else ρ y) w) : OpPost P o ρ w F := by
  refine post_value (u := if b then ρ x else ρ y) (w' := w) ?_ hF
  unfold execOp
  simp [ho, hc, go_sem]

/-! A variable that has just been made, and is then set. -/
def FreshV (B : Nat) (cs : List Value) (T : TypeId) : World → Value → Prop := fun w u => ∃ X, u = .pointer (some ⟨X, 0, none⟩) ∧ B ≤ X ∧ X < w.heap.size ∧ w.heap[X]? = some (.cells cs.toArray T)
theorem FreshV.st {B : Nat} {cs : List Value} {T : TypeId} : St (FreshV B cs T) := fun w w' u hx ⟨X, h1, h2, h3, h4⟩ => ⟨X, h1, h2, Nat.lt_of_lt_of_le h3 hx.size, (hx.block h3).trans h4⟩
theorem setCells_ext {B : World} {X : Nat} (hX : B.heap.size ≤ X) : ∀ (vs : List Value) (o : Nat) (w : World), Ext B w → Ext B (w.setCells X o vs) := by
  intro vs
  induction vs with
  | nil => intro o w h; exact h
  | cons v vs ih => intro o w h; exact ih (o + 1) _ (h.setCell (p := ⟨X, o, none⟩) hX v)
theorem setCells_size {X : Nat} : ∀ (vs : List Value) (o : Nat) (w : World), (w.setCells X o vs).heap.size = w.heap.size := by
  intro vs
  induction vs with
  | nil => intro o w; rfl
  | cons v vs ih => intro o w; show ((w.setCell ⟨X, o, none⟩ v).setCells X (o + 1) vs).heap.size = _; rw [ih]; simp
theorem there_of {w : World} {X : Nat} {cs : List Value} {T : TypeId} (h : w.heap[X]? = some (.cells cs.toArray T)) : w.there X 0 cs.length := by
  intro j hj
  simp only [World.cell?, World.frozen?, h, Nat.zero_add]
  simp [hj]
theorem wp_store_var {o : Oper} {K : Act → World → Prop} (ty : TypeId) (x y : Operand) (ho : o.op = .store ty x y) {a : Act} {W w : World} {X : Nat} {cs0 cs : List Value} {T : TypeId} (hx : a.eval x = .pointer (some ⟨X, 0, none⟩)) (hy : a.eval y = .agg cs.toArray)
    (hX : W.heap.size ≤ X) (hXw : w.heap[X]? = some (.cells cs0.toArray T)) (hl : cs0.length = cs.length) (hi : (P.info? ty).map (·.size) = some cs.length) (h1 : cs.all (·.oneCell') = true) (hxW : Ext W w)
    (h : ∀ w', Ext W w' → w'.rangeAt X 0 cs → (∀ b o l, b ≠ X → w.rangeAt b o l → w'.rangeAt b o l) → w'.heap.size = w.heap.size → K (a.put o.dst undef) w') : o.wp P a w K Q := by
  have ht : w.there X 0 cs.length := hl ▸ there_of hXw
  refine wp_store_mid ty x y ho X 0 cs.toArray hx hy (by simpa using ht) (by simpa using hi) (by simpa using h1) ?_
  exact h _ (setCells_ext hX _ _ _ hxW) (by simpa using World.rangeAt_setCells_same w X 0 cs ht) (fun b o l hb hr => by simpa using World.rangeAt_setCells_apart hr X 0 cs (.inl hb)) (setCells_size _ _ _)
theorem apart_of {w : World} {S X k : Nat} {c : Value} (h : w.cell? ⟨S, k, none⟩ = some c) (h' : w.cell? ⟨X, k, none⟩ ≠ some c) : S ≠ X := fun e => h' (e ▸ h)

/-- A variable of which p holds. -/
def VarP (n : Nat) (p : World → Value → Prop) : World → Value → Prop := fun w u => ∃ b cs, u = .pointer (some ⟨b, 0, none⟩) ∧ cs.length = n ∧ w.rangeAt b 0 cs ∧ p w (.agg cs.toArray)
theorem VarP.st {n : Nat} {p : World → Value → Prop} (h : St p) : St (VarP n p) := fun w w' u hx ⟨b, cs, h1, h2, h3, h4⟩ => ⟨b, cs, h1, h2, fun j v hv => hx.cell (h3 j v hv), h _ _ _ hx h4⟩
theorem op_loadV {o : Oper} {ρ : Operand → Value} {w : World} {n : Nat} {p : World → Value → Prop} (ty : TypeId) (x : Operand) (ho : o.op = .load ty x) (d : TypeDesc) (hu : P.underlying ty = some d) (hd : d.isRow = true) (hi : (P.info? ty).map (·.size) = some n) (hx : VarP n p w (ρ x)) : OpPost P o ρ w fun u w' => Ext w w' ∧ p w' u := by
  obtain ⟨b, cs, h1, h2, h3, h4⟩ := hx
  exact post_load ty x ho b 0 h1 cs d h3 hu hd (h2 ▸ hi) ⟨.refl _, h4⟩
theorem Sees.dep {dsts : List (Option Tmp)} {a0 : Act} {v : Nat → Value} {ρ : Operand → Value} (S : Sees dsts a0 v ρ) {w : World} (j : Nat) {t : Tmp} {p : World → Value → Prop} (h : dsts[j]? = some (some t)) (hp : p w (v j)) : p w (ρ (.tmp t)) := by
  rw [S.v j t h]; exact hp
theorem Sees.out {dsts : List (Option Tmp)} {a0 : Act} {v : Nat → Value} {ρ : Operand → Value} (S : Sees dsts a0 v ρ) {w : World} {t : Tmp} {p : World → Value → Prop} (h : dsts.contains (some t) = false) (hp : p w (a0.eval (.tmp t))) : p w (ρ (.tmp t)) := by
  rw [S.o t h]; exact hp
theorem op_move {o : Oper} {ρ : Operand → Value} {w : World} {p : World → Value → Prop} {x : Operand} (ho : o.op = .move x ∨ o.op = .assign x) (h : p w (ρ x)) : OpPost P o ρ w fun u w' => Ext w w' ∧ p w' u := post_move x ho ⟨.refl _, h⟩
theorem op_pick {o : Oper} {ρ : Operand → Value} {w : World} {p : World → Value → Prop} {c x y : Operand} (b : Bool) (ho : o.op = .pick c x y) (hc : Is (.bool b) w (ρ c)) (h : p w (if b then ρ x else ρ y)) : OpPost P o ρ w fun u w' => Ext w w' ∧ p w' u := post_pick c x y b ho hc ⟨.refl _, h⟩
theorem op_not {o : Oper} {ρ : Operand → Value} {w : World} {x : Operand} {ty : TypeId} {b : Bool} (ho : o.op = .unOp .not ty x) (h : Is (.bool b) w (ρ x)) : OpPost P o ρ w fun u w' => Ext w w' ∧ Is (.bool (!b)) w' u := by
  have h' : ρ x = .bool b := h
  exact post_value (u := .bool (!b)) (w' := w) (by unfold execOp; rw [ho]; simp [h', go_sem]) ⟨.refl _, rfl⟩
theorem op_extract {o : Oper} {ρ : Operand → Value} {w : World} {x : Operand} {i : Nat} {vs : Array Value} {u : Value} (ho : o.op = .extract x i) (h : Is (.tuple vs) w (ρ x)) (hi : vs[i]? = some u) : OpPost P o ρ w fun u' w' => Ext w w' ∧ Is u w' u' := by
  have h' : ρ x = .tuple vs := h
  exact post_value (u := u) (w' := w) (by unfold execOp; rw [ho]; simp [h', go_sem, Instr.extract, hi]) ⟨.refl _, rfl⟩
/-- the test of the equality of two numbers -/
theorem op_eql {o : Oper} {ρ : Operand → Value} {w : World} {x y : Operand} {ty ty2 : TypeId} {k : IntKind} {a b : Int} (ho : o.op = .binOp .eql ty x y ty2) (hx : Is (.int k a) w (ρ x)) (hy : Is (.int k b) w (ρ y)) : OpPost P o ρ w fun u w' => Ext w w' ∧ Is (.bool (a == b)) w' u := by
  have hx' : ρ x = .int k a := hx
  have hy' : ρ y = .int k b := hy
  exact post_value (u := .bool (a == b)) (w' := w) (by unfold execOp; rw [ho]; simp [hx', hy', go_sem]) ⟨.refl _, rfl⟩
theorem op_neq {o : Oper} {ρ : Operand → Value} {w : World} {x y : Operand} {ty ty2 : TypeId} {k : IntKind} {a b : Int} (ho : o.op = .binOp .neq ty x y ty2) (hx : Is (.int k a) w (ρ x)) (hy : Is (.int k b) w (ρ y)) : OpPost P o ρ w fun u w' => Ext w w' ∧ Is (.bool (a != b)) w' u := by
  have hx' : ρ x = .int k a := hx
  have hy' : ρ y = .int k b := hy
  exact post_value (u := .bool (a != b)) (w' := w) (by unfold execOp; rw [ho]; simp [hx', hy', go_sem]) ⟨.refl _, rfl⟩
/-- A value that is made around a slice whose row has just been laid. -/
def WithRow (f : Value → Value) (k : Nat) (cells : List Value) : World → Value → Prop := fun w u => ∃ S, u = f (.slice (some ⟨S, 0, none⟩) k k) ∧ S < w.heap.size ∧ w.rangeAt S 0 cells
theorem WithRow.st {f : Value → Value} {k : Nat} {cells : List Value} : St (WithRow f k cells) := fun w w' u hx ⟨S, h1, h2, h3⟩ => ⟨S, h1, Nat.lt_of_lt_of_le h2 hx.size, fun j v hv => hx.cell (h3 j v hv)⟩
theorem range_alloc {w : World} {cs : List Value} {T : TypeId} : (w.alloc (.cells cs.toArray T)).rangeAt w.heap.size 0 cs := by
  intro j v hv
  simp [go_sem, hv]
theorem op_alloc {o : Oper} {ρ : Operand → Value} {W w : World} {T : TypeId} (cs : List Value) (h : (execOp ρ o).run P w = .ok (.value (.pointer (some ⟨w.heap.size, 0, none⟩))) (w.alloc (.cells cs.toArray T))) (hx : Ext W w) : OpPost P o ρ w fun u w' => Ext w w' ∧ FreshV W.heap.size cs T w' u :=
  post_value h ⟨(Ext.refl _).alloc _, w.heap.size, rfl, hx.size, by simp, by show (w.heap.push _)[w.heap.size]? = _; simp⟩
theorem op_row {o : Oper} {ρ : Operand → Value} {w : World} {T : TypeId} (k : Nat) (cs : List Value) (h : (execOp ρ o).run P w = .ok (.value (.slice (some ⟨w.heap.size, 0, none⟩) k k)) (w.alloc (.cells cs.toArray T))) : OpPost P o ρ w fun u w' => Ext w w' ∧ WithRow (fun s => s) k cs w' u :=
  post_value h ⟨(Ext.refl _).alloc _, w.heap.size, rfl, by simp, range_alloc⟩

/-! Steps of control, the frame abstract. -/
theorem then_normal {next : Act → World → Prop} {a : Act} {w : World} (h : next a w) : Exit.then next Q .normal a w := h
theorem cond_t {c : Operand} {x y : Code} {a : Act} {w : World} (hc : Is (.bool true) w (a.eval c)) (h : x.wp P Q a w) : (Code.cond c x y).wp P Q a w := wp_cond (t := true) hc h
theorem cond_f {c : Operand} {x y : Code} {a : Act} {w : World} (hc : Is (.bool false) w (a.eval c)) (h : y.wp P Q a w) : (Code.cond c x y).wp P Q a w := wp_cond (t := false) hc h
theorem then_exit {next : Act → World → Prop} {id : Nat} {a : Act} {w : World} (h : Q (.exit id) a w) : Exit.then next Q (.exit id) a w := h
theorem in_normal {id : Nat} {a : Act} {w : World} (h : Q .normal a w) : Exit.inBlock id Q .normal a w := h
theorem in_exit {id k : Nat} {a : Act} {w : World} (hk : k ≠ id) (h : Q (.exit k) a w) : Exit.inBlock id Q (.exit k) a w := by simp only [Exit.inBlock, if_neg hk]; exact h
theorem exit_block {id : Nat} {a : Act} {w : World} (h : Q .normal a w) : Exit.inBlock id Q (.exit id) a w := by simp only [Exit.inBlock, if_true]; exact h
theorem ret_is {fn : Func} {t : Tmp} {a : Act} {w : World} {R : Ending → World → Prop} {v : Value} (hr : fn.results = #[.tmp t]) (hd : a.defers = []) (g : Is v w (a.eval (.tmp t))) (hR : R (.returned v) w) : bodyPost P fn R .ret a w := by
  refine bodyPost_ret (v := v) ?_ hd hR
  rw [results_tmp hr]
  exact congrArg (fun v => Result.ok v w) g
theorem put_same {a : Act} {d : Tmp} {u : Value} (h : d < a.tmps.size) : (a.put (some d) u).eval (.tmp d) = u := by
  show (a.tmps.setIfInBounds d u).getD d undef = u
  rw [Array.getD_eq_getD_getElem?]
  simp [h]
theorem put_others {D : List (Option Tmp)} {d : Tmp} {a0 a : Act} {v : Nat → Value} {u : Value} (S : Sees D a0 v a.eval) : ∀ t, (D ++ [some d]).contains (some t) = false → (a.put (some d) u).eval (.tmp t) = a0.eval (.tmp t) := by
  intro t ht
  simp only [List.contains_eq_mem, List.mem_append, List.mem_singleton, Option.some.injEq, decide_eq_false_iff_not, not_or] at ht
  rw [← S.o t (by simpa using ht.1)]
  show (a.put (some d) u).tmps.getD t undef = a.tmps.getD t undef
  rw [Array.getD_eq_getD_getElem?, Array.getD_eq_getD_getElem?, put_other a (some d) u t (fun h => ht.2 (Option.some.inj h).symm)]
theorem put_size {a : Act} {d : Option Tmp} {u : Value} : (a.put d u).tmps.size = a.tmps.size := by cases d <;> simp [Act.put]
end
end Go.Proofs.Ytophdbbbojnobaa
