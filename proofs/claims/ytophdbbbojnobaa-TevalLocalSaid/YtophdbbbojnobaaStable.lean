/- A statement whose order is drawn, of which each operation's fact, once it holds, holds for good: each operation is walked once, whatever ran before it. -/
import Derived.Test.YtophdbbbojnobaaRegion
namespace Go.Proofs.Ytophdbbbojnobaa
open Go.RowKit
set_option linter.unusedVariables false

/-- The values of the operations l, from number k on, each put where it belongs. -/
def putAll : List Oper → Nat → (Nat → Value) → Act → Act
  | [], _, _, a => a
  | o :: r, k, v, a => putAll r (k + 1) v (a.put o.dst (v k))
def upd (v : Nat → Value) (i : Nat) (u : Value) : Nat → Value := fun j => if j = i then u else v j
def apartB : List Oper → Bool
  | [] => true
  | o :: r => (match o.dst with | none => true | some d => r.all fun p => p.dst != some d) && apartB r

theorem put_comm (a : Act) (d e : Option Tmp) (x y : Value) (h : ∀ t, d = some t → e ≠ some t) : (a.put d x).put e y = (a.put e y).put d x := by
  cases d with
  | none => rfl
  | some d => cases e with
    | none => rfl
    | some e =>
      have : d ≠ e := fun h' => h d rfl (by rw [h'])
      simp only [Act.put, Array.setIfInBounds_comm _ _ this]
theorem put_put (a : Act) (d : Option Tmp) (x y : Value) : (a.put d x).put d y = a.put d y := by
  cases d with
  | none => rfl
  | some d => simp [Act.put]
theorem putAll_put (d : Option Tmp) (u : Value) : ∀ (r : List Oper) (k : Nat) (v : Nat → Value) (a : Act), (∀ t, d = some t → ∀ p ∈ r, p.dst ≠ some t) → (putAll r k v a).put d u = putAll r k v (a.put d u) := by
  intro r
  induction r with
  | nil => intro k v a _; rfl
  | cons o r ih =>
    intro k v a h
    show (putAll r (k + 1) v (a.put o.dst (v k))).put d u = _
    rw [ih _ _ _ (fun t ht p hp => h t ht p (by simp [hp])), put_comm a o.dst d (v k) u (fun t ht hd => h t hd o (by simp) ht)]
    rfl
theorem putAll_congr : ∀ (r : List Oper) (k : Nat) (v v' : Nat → Value) (a : Act), (∀ j, k ≤ j → v j = v' j) → putAll r k v a = putAll r k v' a := by
  intro r
  induction r with
  | nil => intro k v v' a _; rfl
  | cons o r ih =>
    intro k v v' a h
    show putAll r (k + 1) v (a.put o.dst (v k)) = putAll r (k + 1) v' (a.put o.dst (v' k))
    rw [h k (Nat.le_refl _)]
    exact ih _ _ _ _ fun j hj => h j (by omega)
theorem putAll_upd (u : Value) : ∀ (r : List Oper) (k i : Nat) (v : Nat → Value) (a : Act) (o : Oper), apartB r = true → r[i]? = some o → (putAll r k v a).put o.dst u = putAll r k (upd v (k + i) u) a := by
  intro r
  induction r with
  | nil => intro k i v a o _ h; simp at h
  | cons p r ih =>
    intro k i v a o hB h
    simp only [apartB, Bool.and_eq_true] at hB
    cases i with
    | zero =>
      obtain rfl : p = o := by simpa using h
      show (putAll r (k + 1) v (a.put p.dst (v k))).put p.dst u = putAll r (k + 1) (upd v k u) (a.put p.dst (upd v k u k))
      rw [putAll_put _ _ _ _ _ _ ?_, put_put, putAll_congr r (k + 1) (upd v k u) v _ (fun j hj => by simp [upd]; omega)]
      · simp [upd]
      · intro t ht q hq
        have := hB.1
        rw [ht] at this
        simpa using (List.all_eq_true.1 this) q hq
    | succ i =>
      have h' : r[i]? = some o := by simpa using h
      show (putAll r (k + 1) v (a.put p.dst (v k))).put o.dst u = putAll r (k + 1) (upd v (k + (i + 1)) u) (a.put p.dst (upd v (k + (i + 1)) u k))
      rw [ih (k + 1) i v _ o hB.2 h']
      have : k + 1 + i = k + (i + 1) := by omega
      rw [this]
      congr 2
      simp [upd]
theorem put_self (a : Act) (d : Tmp) : a.put (some d) (a.tmps.getD d undef) = a := by
  cases a with
  | mk t ds =>
    simp only [Act.put]
    congr 1
    apply Array.ext_getElem?
    intro i
    rw [Array.getElem?_setIfInBounds]
    split
    · rename_i h
      subst h
      by_cases hl : d < t.size
      · simp [hl, Array.getD]
      · simp [hl, Array.getElem?_eq_none (Nat.not_lt.1 hl)]
    · rfl
def here (l : List Oper) (a : Act) : Nat → Value := fun j => match (l[j]?).bind (·.dst) with | some d => a.tmps.getD d undef | none => undef
theorem putAll_here_aux : ∀ (r : List Oper) (k : Nat) (v : Nat → Value) (a : Act), (∀ i o d, r[i]? = some o → o.dst = some d → v (k + i) = a.tmps.getD d undef) → putAll r k v a = a := by
  intro r
  induction r with
  | nil => intro k v a _; rfl
  | cons o r ih =>
    intro k v a h
    have h0 : a.put o.dst (v k) = a := by
      cases hd : o.dst with
      | none => rfl
      | some d => rw [show v k = a.tmps.getD d undef from h 0 o d (by simp) hd]; exact put_self a d
    show putAll r (k + 1) v (a.put o.dst (v k)) = a
    rw [h0]
    exact ih _ _ _ fun i p d hp hd => by
      have := h (i + 1) p d (by simpa using hp) hd
      rwa [show k + (i + 1) = k + 1 + i by omega] at this
theorem putAll_here (l : List Oper) (a : Act) : putAll l 0 (here l a) a = a := putAll_here_aux l 0 _ a fun i o d ho hd => by simp [here, ho, hd]

/-- the operations that an operation waits for -/
def waits (o : Oper) : List Nat := ((o.after.toList.filter (Region.binds .any)).map (·.on)).eraseDups
/-- each of the first n waits for earlier ones alone, each later one for all of the first n -/
def stableB (ops : List Oper) (n : Nat) : Bool :=
  apartB (ops.take n) && decide (n ≤ ops.length) && (ops.toArray.all fun o => match o.op with | .select .. => false | _ => true) &&
  ((List.range n).all fun i => ((ops[i]?).map fun o => o.after.all fun e => !Region.binds .any e || decide (e.on < i)).getD false) &&
  ((ops.drop n).all fun o => (List.range n).all fun j => o.after.any fun e => Region.binds .any e && e.on == j)

section
variable {P : Program} {Q : Exit → Act → World → Prop}

/-- What is to be shown of each operation: whatever ran before it, it leaves a value with its fact. -/
def Obl (P : Program) (Q : Exit → Act → World → Prop) (ops : Array Oper) (l : List Oper) (R : World → Prop) (T : World → World → Prop) (PP : Nat → World → Value → Prop) (a0 : Act) : List Oper → Nat → Prop
  | [], _ => True
  | o :: r, i => (∀ (v : Nat → Value) (w : World), R w → (∀ j ∈ waits o, PP j w (v j)) → ∀ K : Act → World → Prop, (∀ u w', T w w' → PP i w' u → K ((putAll l 0 v a0).put o.dst u) w') →
      if Region.wanted o (yielded ops (putAll l 0 v a0).tmps) = true then Oper.wp P o (putAll l 0 v a0) w K Q else K ((putAll l 0 v a0).put o.dst undef) w) ∧ Obl P Q ops l R T PP a0 r (i + 1)

theorem Obl.nil {ops : Array Oper} {l : List Oper} {R : World → Prop} {T : World → World → Prop} {PP : Nat → World → Value → Prop} {a0 : Act} {i : Nat} : Obl P Q ops l R T PP a0 [] i := trivial
theorem Obl.cons {ops : Array Oper} {l : List Oper} {R : World → Prop} {T : World → World → Prop} {PP : Nat → World → Value → Prop} {a0 : Act} {o : Oper} {r : List Oper} {i : Nat}
    (h : ∀ (v : Nat → Value) (w : World), R w → (∀ j ∈ waits o, PP j w (v j)) → ∀ K : Act → World → Prop, Hid (∀ u w', T w w' → PP i w' u → K ((putAll l 0 v a0).put o.dst u) w') →
      if Region.wanted o (yielded ops (putAll l 0 v a0).tmps) = true then Oper.wp P o (putAll l 0 v a0) w K Q else K ((putAll l 0 v a0).put o.dst undef) w)
    (h2 : Obl P Q ops l R T PP a0 r (i + 1)) : Obl P Q ops l R T PP a0 (o :: r) i := ⟨fun v w hR hd K hK => h v w hR hd K (Lib.hid hK), h2⟩

theorem Obl.at_ {ops : Array Oper} {l : List Oper} {R : World → Prop} {T : World → World → Prop} {PP : Nat → World → Value → Prop} {a0 : Act} : ∀ {r : List Oper} {k : Nat}, Obl P Q ops l R T PP a0 r k → ∀ {i : Nat} {o : Oper}, r[i]? = some o →
    ∀ (v : Nat → Value) (w : World), R w → (∀ j ∈ waits o, PP j w (v j)) → ∀ K : Act → World → Prop, (∀ u w', T w w' → PP (k + i) w' u → K ((putAll l 0 v a0).put o.dst u) w') →
      if Region.wanted o (yielded ops (putAll l 0 v a0).tmps) = true then Oper.wp P o (putAll l 0 v a0) w K Q else K ((putAll l 0 v a0).put o.dst undef) w := by
  intro r
  induction r with
  | nil => intro k _ i o h; simp at h
  | cons p r ih =>
    intro k hO i o h
    cases i with
    | zero =>
      obtain rfl : p = o := by simpa using h
      exact hO.1
    | succ i =>
      have := ih hO.2 (i := i) (o := o) (by simpa using h)
      rwa [show k + 1 + i = k + (i + 1) by omega] at this

def cntF (listed : Array Bool) (n : Nat) : Nat := ((List.range n).filter fun j => !listed.getD j true).length
theorem filter_set (listed : Array Bool) (i : Nat) (hs : listed.getD i true = false) : ∀ (L : List Nat), L.Nodup →
    (L.filter fun j => !(listed.setIfInBounds i true).getD j true).length + (if i ∈ L then 1 else 0) = (L.filter fun j => !listed.getD j true).length := by
  have hb : i < listed.size := by
    by_cases h : i < listed.size
    · exact h
    · simp [Array.getD, h] at hs
  have hg : ∀ j, (listed.setIfInBounds i true).getD j true = if j = i then true else listed.getD j true := by
    intro j
    simp only [Array.getD_eq_getD_getElem?, Array.getElem?_setIfInBounds]
    by_cases h : i = j
    · subst h; simp [hb]
    · rw [if_neg h, if_neg (fun h' => h h'.symm)]
  intro L
  induction L with
  | nil => intro _; simp
  | cons x L ih =>
    intro hn
    rw [List.nodup_cons] at hn
    have ih' := ih hn.2
    by_cases hx : x = i
    · subst hx
      rw [if_neg hn.1] at ih'
      simp only [List.filter_cons, hg, if_true, hs, Bool.not_true, Bool.not_false, List.mem_cons, true_or, if_false, List.length_cons]
      simp only [hg] at ih'
      simp at ih' ⊢
      exact ih'
    · have hm : (i ∈ x :: L) ↔ i ∈ L := by simp [Ne.symm hx]
      simp only [hm]
      by_cases hl : listed.getD x true = true
      · simp only [List.filter_cons, hg, if_neg hx, hl, Bool.not_true] at ih' ⊢
        exact ih'
      · have hl' : listed.getD x true = false := by simpa using hl
        simp only [List.filter_cons, hg, if_neg hx, hl', Bool.not_false, if_true, List.length_cons] at ih' ⊢
        omega
theorem cnt_set (listed : Array Bool) (i n : Nat) (hi : i < n) (hs : listed.getD i true = false) : cntF (listed.setIfInBounds i true) n + 1 = cntF listed n := by
  have := filter_set listed i hs (List.range n) List.nodup_range
  rw [if_pos (by simpa using hi)] at this
  exact this

/-- where the first n have run -/
def doneB (N n : Nat) : Array Bool := (List.replicate n true ++ List.replicate (N - n) false).toArray

theorem stable_go (ops : List Oper) (n : Nat) (R : World → Prop) (T : World → World → Prop) (PP : Nat → World → Value → Prop) (a0 : Act) (hB : stableB ops n = true)
    (hT : ∀ w w', R w → T w w' → R w') (hPP : ∀ j w w' u, T w w' → PP j w u → PP j w' u)
    (hO : Obl P Q ops.toArray (ops.take n) R T PP a0 (ops.take n) 0)
    (hend : ∀ v w, R w → (∀ j, j < n → PP j w (v j)) → wpAny P .any ops.toArray Q (ops.length - n) (doneB ops.length n) (putAll (ops.take n) 0 v a0) w) :
    ∀ (m : Nat) (listed : Array Bool) (v : Nat → Value) (w : World), listed.size = ops.length → cntF listed n = m → (∀ j, n ≤ j → j < ops.length → listed.getD j true = false) → R w → (∀ j, j < n → listed.getD j true = true → PP j w (v j)) →
      wpAny P .any ops.toArray Q (m + (ops.length - n)) listed (putAll (ops.take n) 0 v a0) w := by
  simp only [stableB, Bool.and_eq_true, decide_eq_true_eq, List.all_eq_true, List.mem_range] at hB
  obtain ⟨⟨⟨⟨hap, hn⟩, hsel⟩, hlow⟩, hup⟩ := hB
  intro m
  induction m with
  | zero =>
    intro listed v w hsz hc hhi hR hl
    have hall : ∀ j, j < n → listed.getD j true = true := by
      intro j hj
      by_cases h : listed.getD j true = true
      · exact h
      · have : j ∈ (List.range n).filter fun j => !listed.getD j true := List.mem_filter.2 ⟨List.mem_range.2 hj, by simp [h]⟩
        unfold cntF at hc
        rw [List.length_eq_zero_iff.1 hc] at this
        simp at this
    have he : listed = doneB ops.length n := by
      apply Array.ext_getElem?
      intro j
      have hd : (doneB ops.length n)[j]? = (List.replicate n true ++ List.replicate (ops.length - n) false)[j]? := by unfold doneB; exact List.getElem?_toArray
      rw [hd]
      by_cases hj : j < n
      · rw [List.getElem?_append_left (by simpa using hj)]
        have := hall j hj
        rw [Array.getD_eq_getD_getElem?, Array.getElem?_eq_getElem (by omega)] at this
        rw [Array.getElem?_eq_getElem (by omega), List.getElem?_replicate, if_pos hj]
        simpa using this
      · by_cases hj2 : j < ops.length
        · have := hhi j (by omega) hj2
          rw [Array.getD_eq_getD_getElem?, Array.getElem?_eq_getElem (by omega)] at this
          rw [Array.getElem?_eq_getElem (by omega), List.getElem?_append_right (by simp; omega), List.getElem?_replicate, if_pos (by simp; omega)]
          simpa using this
        · rw [Array.getElem?_eq_none (by omega), List.getElem?_eq_none (by simp; omega)]
    subst he
    rw [Nat.zero_add]
    exact hend v w hR fun j hj => hl j hj (hall j hj)
  | succ m ih =>
    intro listed v w hsz hc hhi hR hl
    have hsome : ∃ j, j < n ∧ listed.getD j true = false ∧ ∀ k, k < j → listed.getD k true = true := by
      have hex : ∃ j, j < n ∧ listed.getD j true = false := by
        have h1 : (List.range n).filter (fun j => !listed.getD j true) ≠ [] := fun h => by
          unfold cntF at hc; rw [h] at hc; simp at hc
        obtain ⟨j, hj⟩ := List.exists_mem_of_ne_nil _ h1
        obtain ⟨hj1, hj2⟩ := List.mem_filter.1 hj
        exact ⟨j, List.mem_range.1 hj1, by simpa using hj2⟩
      have : ∀ k, ∀ j, j < n → listed.getD j true = false → j ≤ k → ∃ j, j < n ∧ listed.getD j true = false ∧ ∀ k, k < j → listed.getD k true = true := by
        intro k
        induction k with
        | zero => intro j hj h hk; exact ⟨j, hj, h, fun k hk' => absurd hk' (by omega)⟩
        | succ k ihk =>
          intro j hj h hk
          by_cases hex2 : ∃ i, i < j ∧ listed.getD i true = false
          · obtain ⟨i, hij, hi⟩ := hex2
            exact ihk i (by omega) hi (by omega)
          · refine ⟨j, hj, h, fun i hi => ?_⟩
            by_cases h3 : listed.getD i true = true
            · exact h3
            · exact absurd ⟨i, hi, by simpa using h3⟩ hex2
      obtain ⟨j, hj, h⟩ := hex
      exact this j j hj h (Nat.le_refl _)
    have hge : ∀ j, j < ops.length → listed.getD j false = listed.getD j true := by
      intro j hj
      rw [Array.getD_eq_getD_getElem?, Array.getD_eq_getD_getElem?, Array.getElem?_eq_getElem (by omega)]
      rfl
    obtain ⟨j0, hj0, hf0, hbef⟩ := hsome
    have hr0 : j0 ∈ Region.ready .any ops.toArray listed := by
      refine List.mem_filter.2 ⟨List.mem_range.2 (by simp; omega), ?_⟩
      rw [hf0]
      have hlj := hlow j0 hj0
      rw [show (ops.toArray[j0]?) = some ops[j0] by simp]
      rw [show ops[j0]? = some ops[j0] from List.getElem?_eq_getElem (by omega)] at hlj
      simp only [Option.map_some, Option.getD_some, Array.all_eq_true, Bool.or_eq_true, Bool.not_eq_true', decide_eq_true_eq] at hlj
      simp only [Option.map_some, Option.getD_some, Bool.not_false, Bool.true_and, Array.all_eq_true, Bool.or_eq_true, Bool.not_eq_true']
      intro i hi
      rcases hlj i hi with h | h
      · exact .inl h
      · exact .inr (by rw [hge _ (by omega)]; exact hbef _ h)
    rw [show m + 1 + (ops.length - n) = (m + (ops.length - n)) + 1 by omega]
    refine ⟨fun h => absurd hr0 (by rw [h]; simp), fun i hi => ?_⟩
    obtain ⟨hi1, hi2⟩ := List.mem_filter.1 hi
    have hil : i < ops.length := by simpa using List.mem_range.1 hi1
    rw [show (ops.toArray[i]?) = some ops[i] by simp [hil]] at hi2
    simp only [Option.map_some, Option.getD_some, Bool.and_eq_true, Bool.not_eq_true', Array.all_eq_true, Bool.or_eq_true] at hi2
    obtain ⟨hif, hie⟩ := hi2
    have hin : i < n := by
      by_cases hlt : i < n
      · exact hlt
      · exfalso
        have hmem : ops[i] ∈ ops.drop n := List.mem_drop_iff_getElem.2 ⟨i - n, by omega, by congr 1; omega⟩
        have h := hup _ hmem j0 hj0
        rw [Array.any_eq_true] at h
        obtain ⟨e, he, h⟩ := h
        simp only [Bool.and_eq_true, beq_iff_eq] at h
        rcases hie e he with h' | h'
        · rw [h.1] at h'; cases h'
        · rw [h.2, hge _ (by omega), hf0] at h'; cases h'
    have hdep : ∀ j ∈ waits ops[i], PP j w (v j) := by
      intro j hj
      have hj' : j ∈ (ops[i].after.toList.filter (Region.binds .any)).map (·.on) := by unfold waits at hj; simpa using hj
      obtain ⟨e, he, rfl⟩ := List.mem_map.1 hj'
      obtain ⟨he1, he2⟩ := List.mem_filter.1 he
      obtain ⟨k, hk, rfl⟩ := List.getElem_of_mem he1
      have hk' : k < ops[i].after.size := by simpa using hk
      have hlj := hlow i hin
      rw [show ops[i]? = some ops[i] from List.getElem?_eq_getElem hil] at hlj
      simp only [Option.map_some, Option.getD_some, Array.all_eq_true, Bool.or_eq_true, Bool.not_eq_true', decide_eq_true_eq] at hlj
      have hon : ops[i].after[k].on < i := by
        rcases hlj k hk' with h | h
        · rw [show ops[i].after[k] = ops[i].after.toList[k] by simp] at h; rw [h] at he2; cases he2
        · exact h
      rcases hie k hk' with h | h
      · rw [show ops[i].after[k] = ops[i].after.toList[k] by simp] at h; rw [h] at he2; cases he2
      · rw [show ops[i].after.toList[k] = ops[i].after[k] by simp]
        rw [hge _ (by omega)] at h
        exact hl _ (by omega) h
    have htk : (ops.take n)[i]? = some ops[i] := by rw [List.getElem?_take, if_pos hin]; exact List.getElem?_eq_getElem hil
    have h := hO.at_ htk v w hR hdep (wpAny P .any ops.toArray Q (m + (ops.length - n)) (listed.setIfInBounds i true)) ?_
    · unfold wpOp
      rw [show (ops.toArray[i]?) = some ops[i] by simp [hil]]
      simp only
      split at h
      · rw [if_pos ‹_›]; exact .inl h
      · rw [if_neg ‹_›]; exact h
    · intro u w' hTw hPu
      rw [Nat.zero_add] at hPu
      rw [putAll_upd u (ops.take n) 0 i v a0 ops[i] hap htk, Nat.zero_add]
      have hg : ∀ j, (listed.setIfInBounds i true).getD j true = if j = i then true else listed.getD j true := by
        intro j
        simp only [Array.getD_eq_getD_getElem?, Array.getElem?_setIfInBounds]
        by_cases h : i = j
        · subst h; simp [hsz, hil]
        · rw [if_neg h, if_neg (fun h' => h h'.symm)]
      refine ih _ _ _ (by simpa using hsz) ?_ ?_ (hT _ _ hR hTw) ?_
      · have := cnt_set listed i n hin hif
        omega
      · intro j hj hj2
        rw [hg, if_neg (by omega)]
        exact hhi j hj hj2
      · intro j hj hlj
        by_cases h : j = i
        · subst h; simpa [upd] using hPu
        · rw [hg, if_neg h] at hlj
          simp only [upd, if_neg h]
          exact hPP _ _ _ _ hTw (hl j hj hlj)

/-- The law: n operations in whatever order, then the rest. -/
theorem wp_region_stable {id : Nat} {a : Act} {w : World} {ops : List Oper} (n : Nat) (R : World → Prop) (T : World → World → Prop) (PP : Nat → World → Value → Prop) (hm : P.follows .mixedOrders = true) (hB : stableB ops n = true)
    (hR : R w.drew) (hT : ∀ w w', R w → T w w' → R w') (hPP : ∀ j w w' u, T w w' → PP j w u → PP j w' u)
    (hO : Obl P Q ops.toArray (ops.take n) R T PP a (ops.take n) 0)
    (hend : ∀ v w, R w → (∀ j, j < n → PP j w (v j)) → wpAny P .any ops.toArray Q (ops.length - n) (doneB ops.length n) (putAll (ops.take n) 0 v a) w) : (Code.region id ops.toArray true).wp P Q a w := by
  refine wp_region_any hm ?_
  have hn : n ≤ ops.length := by simp only [stableB, Bool.and_eq_true, decide_eq_true_eq] at hB; exact hB.1.1.1.2
  have h := stable_go ops n R T PP a hB hT hPP hO hend n (Array.replicate ops.length false) (here (ops.take n) a) w.drew (by simp) ?_ ?_ hR ?_
  · rw [putAll_here, show n + (ops.length - n) = ops.length by omega] at h
    simpa using h
  · unfold cntF
    rw [List.filter_eq_self.2, List.length_range]
    intro j hj
    have : j < ops.length := by have := List.mem_range.1 hj; omega
    simp [Array.getD, this]
  · intro j _ hj
    simp [Array.getD, hj]
  · intro j hj h
    have : j < ops.length := by omega
    simp [Array.getD, this] at h

/-- all of the operations -/
theorem stable_all {ops : Array Oper} {N : Nat} {a : Act} {w : World} (hr : Region.ready .any ops (doneB N N) = []) (h : Q .normal a w) : wpAny P .any ops Q (N - N) (doneB N N) a w := by
  rw [Nat.sub_self]; exact ⟨hr, h⟩
/-- all but the last one -/
theorem stable_last {ops : Array Oper} {N n : Nat} {o : Oper} {a : Act} {w : World} (hn : N - n = 1) (hr : Region.ready .any ops (doneB N n) = [n]) (hr2 : Region.ready .any ops ((doneB N n).setIfInBounds n true) = []) (ho : ops[n]? = some o) (hw : Region.wanted o (yielded ops a.tmps) = true)
    (h : o.wp P a w (Q .normal) Q) : wpAny P .any ops Q (N - n) (doneB N n) a w := by
  rw [hn]
  refine wpAny_all hr (by simp) fun i hi => ?_
  obtain rfl : i = n := by simpa using hi
  exact wpOp_of ho hw (Oper.wp_mono (fun a w hq => ⟨hr2, hq⟩) h)
end
end Go.Proofs.Ytophdbbbojnobaa
