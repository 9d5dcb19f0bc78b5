/- A symbolic executor, part N: statements whose order is drawn are sound. -/
import Derived.Test.YtcaomfbcchemnaaDoorEngM
namespace Go.Proofs.YtcaomfbcchemnaaDoor
open Go.RowKit
set_option linter.unusedVariables false

section
variable {Y : Thy} {E : Eng Y}

def cntF (listed : Array Bool) (n : Nat) : Nat := ((List.range n).filter fun j => !listed.getD j true).length
theorem filter_set (listed : Array Bool) (i : Nat) (hs : listed.getD i true = false) : ∀ (L : List Nat), L.Nodup →
    (L.filter fun j => !(listed.setIfInBounds i true).getD j true).length + (if i ∈ L then 1 else 0) = (L.filter fun j => !listed.getD j true).length := by
  have hb : i < listed.size := by
    by_cases h : i < listed.size
    · exact h
    · simp [Array.getD, h] at hs
  have hg : ∀ j, (listed.setIfInBounds i true).getD j true = if j = i then true else listed.getD j true := by
    intro j
    simp only [Array.getD_eq_getD_getElem?, Array.getElem?_setIfInBounds]
    by_cases h : i = j
    · subst h; simp [hb]
    · rw [if_neg h, if_neg (fun h' => h h'.symm)]
  intro L
  induction L with
  | nil => intro _; simp
  | cons x L ih =>
    intro hn
    rw [List.nodup_cons] at hn
    have ih' := ih hn.2
    by_cases hx : x = i
    · subst hx
      rw [if_neg hn.1] at ih'
      simp only [List.filter_cons, hg, if_true, hs, Bool.not_true, Bool.not_false, List.mem_cons, true_or, if_false, List.length_cons]
      simp only [hg] at ih'
      simp at ih' ⊢
      exact ih'
    · have hm : (i ∈ x :: L) ↔ i ∈ L := by simp [Ne.symm hx]
      simp only [hm]
      by_cases hl : listed.getD x true = true
      · simp only [List.filter_cons, hg, if_neg hx, hl, Bool.not_true] at ih' ⊢
        exact ih'
      · have hl' : listed.getD x true = false := by simpa using hl
        simp only [List.filter_cons, hg, if_neg hx, hl', Bool.not_false, if_true, List.length_cons] at ih' ⊢
        omega
theorem cnt_set (listed : Array Bool) (i n : Nat) (hi : i < n) (hs : listed.getD i true = false) : cntF (listed.setIfInBounds i true) n + 1 = cntF listed n := by
  have := filter_set listed i hs (List.range n) List.nodup_range
  rw [if_pos (by simpa using hi)] at this
  exact this


theorem Stp.join {i i1 i2 n n1 n2 : Nat} {m m1 m2 : List Nat} {σ σ1 σ2 : Pl} {g g1 g2 : GH} {w w1 w2 : World} (h : Stp i1 n1 m1 σ g w σ1 g1 w1) (k : Stp i2 n2 m2 σ1 g1 w1 σ2 g2 w2) (a1 : i ≤ i1) (b1 : i1 + n1 ≤ i + n) (a2 : i ≤ i2) (b2 : i2 + n2 ≤ i + n)
    (hm1 : ∀ b ∈ m1, b ∈ m) (hm2 : ∀ b ∈ m2, b ∈ m) : Stp i n m σ g w σ2 g2 w2 := by
  have back : ∀ b ∈ m2, ∀ r z, σ1 b = some (r, z) → w.heap.size ≤ r ∨ ∃ b' ∈ m, ∃ z', σ b' = some (r, z') := by
    intro b hb r z hσ
    cases hs : σ b with
    | none =>
      rcases h.blk b r z hs hσ with h1 | ⟨b', h1, z', h2⟩
      · exact .inl h1
      · exact .inr ⟨b', hm1 b' h1, z', h2⟩
    | some p =>
      have := h.sig _ _ hs
      rw [hσ] at this
      obtain rfl := Option.some.inj this
      exact .inr ⟨b, hm2 b hb, z, hs⟩
  refine ⟨h.sig.trans k.sig, ?_, h.gle.trans k.gle, ?_, ?_, ?_, Nat.le_trans h.size k.size, k.os.trans h.os, k.tape.trans h.tape, k.output.trans h.output, ?_⟩
  · intro b p hb
    rcases k.snew b p hb with h1 | h1
    · rcases h.snew b p h1 with h2 | h2
      · exact .inl h2
      · right; omega
    · right; omega
  · intro r o v hv
    rcases k.gcnew r o v hv with h1 | h1 | ⟨b, h1, z, h2⟩
    · rcases h.gcnew r o v h1 with h2 | h2 | ⟨b, h2, z, h3⟩
      · exact .inl h2
      · exact .inr (.inl h2)
      · exact .inr (.inr ⟨b, hm1 b h2, z, h3⟩)
    · exact .inr (.inl (Nat.le_trans h.size h1))
    · exact .inr (back b h1 r z h2)
  · intro r es hv
    rcases k.gmnew r es hv with h1 | h1
    · exact h.gmnew r es h1
    · exact .inr (Nat.le_trans h.size h1)
  · intro r hr hm
    rw [k.heap r (Nat.lt_of_lt_of_le hr h.size) (fun b hb z hσ => ?_), h.heap r hr fun b hb z => hm b (hm1 b hb) z]
    rcases back b hb r z hσ with h1 | ⟨b', h1, z', h2⟩
    · omega
    · exact hm b' h1 z' h2
  · intro b r z h1 h2
    cases hs : σ1 b with
    | none =>
      rcases k.blk b r z hs h2 with h3 | ⟨b', h3, z', h4⟩
      · exact .inl (Nat.le_trans h.size h3)
      · exact back b' h3 r z' h4
    | some p =>
      have := k.sig _ _ hs
      rw [h2] at this
      obtain rfl := Option.some.inj this
      rcases h.blk b r z h1 hs with h3 | ⟨b', h3, z', h4⟩
      · exact .inl h3
      · exact .inr ⟨b', hm1 b' h3, z', h4⟩

theorem Inv.sub {B : Nat} {σ : Pl} {h h' : Hp Y} {g : GH} {w : World} (hI : Inv E B σ h g w) (hs : ∀ b x, h' b = some x → h b = some x) : Inv E B σ h' g w := by
  have ne : ∀ b, h' b ≠ none → h b ≠ none := fun b hb => by
    obtain ⟨x, hx⟩ := Option.ne_none_iff_exists'.1 hb
    rw [hs b x hx]; simp
  exact ⟨hI.gc, hI.gm, fun b x hx => hI.blk b x (hs b x hx), fun b b' r z z' h1 h2 => hI.inj b b' r z z' (ne b h1) (ne b' h2), hI.base, fun b x r z o v hx => hI.fz b x r z o v (hs b x hx), fun b x r z hx => hI.fm b x r z (hs b x hx), hI.glob⟩

/-! the tests as statements -/
theorem disj_of : ∀ {l1 l2 : List Nat}, disj l1 l2 = true → ∀ x ∈ l1, x ∉ l2
  | [], _, _, x, hx => by simp at hx
  | y :: l1, l2, h, x, hx => by
    simp only [disj, Bool.and_eq_true, Bool.not_eq_true'] at h
    rcases List.mem_cons.1 hx with rfl | hx
    · intro hm; rw [memB_iff.2 hm] at h; cases h.1
    · exact disj_of h.2 x hx
theorem noneIn_of {d : DR Y} : ∀ {l : List Nat}, noneIn d l = true → ∀ x ∈ l, ¬ (d.i ≤ x ∧ x < d.i + d.r.n)
  | [], _, x, hx => by simp at hx
  | y :: l, h, x, hx => by
    simp only [noneIn, Bool.and_eq_true, Bool.not_eq_true'] at h
    rcases List.mem_cons.1 hx with rfl | hx
    · intro hm; have : d.new x = true := inNew_iff.2 hm; rw [this] at h; cases h.1
    · exact noneIn_of h.2 x hx
theorem apartDs_of {b : DR Y} : ∀ {l : List (DR Y)}, apartDs b l = true → ∀ a ∈ l, apartD a b = true
  | [], _, a, ha => by simp at ha
  | y :: l, h, a, ha => by
    simp only [apartDs, Bool.and_eq_true] at h
    rcases List.mem_cons.1 ha with rfl | ha
    · exact h.1
    · exact apartDs_of h.2 a ha
theorem unord_of {m : Nat} {j : Nat} {d : DR Y} : ∀ {l : List (Nat × DR Y)}, (j, d) ∈ l → bitB m j = false → d ∈ unord m l
  | [], h, _ => by simp at h
  | (j', d') :: l, h, hb => by
    simp only [unord]
    rcases List.mem_cons.1 h with e | h
    · cases e; rw [hb]; simp
    · have := unord_of h hb
      split <;> simp [this]
/-- what apart means for the later one's view, and for the earlier one's -/
theorem apartD_of {a b : DR Y} (h : apartD a b = true) : (∀ x ∈ a.r.mods, x ∉ b.r.mods) ∧ (∀ x ∈ b.r.mods, ¬ (a.i ≤ x ∧ x < a.i + a.r.n)) ∧ (∀ x, Rd b.r x → x ∉ a.r.mods) ∧ (∀ x, Rd a.r x → x ∉ b.r.mods) := by
  simp only [apartD, Bool.and_eq_true] at h
  obtain ⟨⟨⟨h1, h2⟩, h3⟩, h4⟩ := h
  refine ⟨disj_of h1, noneIn_of h2, ?_, ?_⟩
  · intro x hx hm
    unfold Rd at hx
    split at hx
    · rename_i hr
      rw [hr] at h3
      cases hq : a.r.mods with
      | nil => rw [hq] at hm; simp at hm
      | cons y l => rw [hq] at h3; cases h3
    · rename_i l hr
      rw [hr] at h3
      simp only [Bool.and_eq_true] at h3
      exact disj_of h3.1 x hm hx
  · intro x hx hm
    unfold Rd at hx
    split at hx
    · rename_i hr
      rw [hr] at h4
      cases hq : b.r.mods with
      | nil => rw [hq] at hm; simp at hm
      | cons y l => rw [hq] at h4; cases h4
    · rename_i l hr
      rw [hr] at h4
      simp only [Bool.and_eq_true] at h4
      exact disj_of h4.1 x hm hx

theorem bitB_eq (m k : Nat) : bitB m k = m.testBit k := by
  unfold bitB Nat.testBit
  show (Nat.beq ((m >>> k) &&& 1) 1) = (1 &&& (m >>> k) != 0)
  rw [Nat.and_comm 1, Nat.and_one_is_mod]
  rcases Nat.mod_two_eq_zero_or_one (m >>> k) with h | h <;> rw [h] <;> rfl
theorem maskOf_bit {k : Nat} {acc : List Nat} : ∀ {ws : List Nat}, bitB (maskOf ws acc) k = true → ∃ j ∈ ws, j = k ∨ bitB (nthN acc j) k = true
  | [], h => by simp [maskOf, bitB] at h
  | j :: ws, h => by
    rw [bitB_eq] at h
    have h' : (((1 <<< j) ||| nthN acc j) ||| maskOf ws acc).testBit k = true := h
    rw [Nat.testBit_or, Nat.testBit_or, Bool.or_eq_true, Bool.or_eq_true] at h'
    rcases h' with (h1 | h1) | h1
    · refine ⟨j, by simp, .inl ?_⟩
      rw [Nat.one_shiftLeft, Nat.testBit_two_pow] at h1
      simpa using h1
    · exact ⟨j, by simp, .inr (by rw [bitB_eq]; exact h1)⟩
    · obtain ⟨j', h2, h3⟩ := maskOf_bit (ws := ws) (by rw [bitB_eq]; exact h1)
      exact ⟨j', by simp [h2], h3⟩
theorem nthN_append : ∀ (a b : List Nat) (j : Nat), j < a.length → nthN (a ++ b) j = nthN a j
  | [], b, j, h => by simp at h
  | x :: a, b, 0, h => rfl
  | x :: a, b, j + 1, h => by simpa [nthN] using nthN_append a b j (by simpa using h)
theorem nthN_at : ∀ (a : List Nat) (x : Nat) (b : List Nat), nthN (a ++ x :: b) a.length = x
  | [], x, b => rfl
  | y :: a, x, b => by simpa [nthN] using nthN_at a x b
theorem masks_pre : ∀ (os : List Oper) (acc : List Nat), ∃ b, masks os acc = acc ++ b
  | [], acc => ⟨[], by simp [masks]⟩
  | o :: os, acc => by
    obtain ⟨b, hb⟩ := masks_pre os (acc ++ [maskOf (waitsOf o) acc])
    exact ⟨maskOf (waitsOf o) acc :: b, by simp [masks, hb]⟩
theorem masks_at : ∀ (os : List Oper) (acc : List Nat) (j : Nat) (o : Oper), os[j]? = some o → ∃ pre, nthN (masks os acc) (acc.length + j) = maskOf (waitsOf o) pre ∧ ∀ k, k < acc.length + j → nthN pre k = nthN (masks os acc) k := by
  intro os
  induction os with
  | nil => intro acc j o h; simp at h
  | cons o0 os ih =>
    intro acc j o h
    cases j with
    | zero =>
      obtain rfl : o0 = o := by simpa using h
      obtain ⟨b, hb⟩ := masks_pre os (acc ++ [maskOf (waitsOf o0) acc])
      refine ⟨acc, ?_, fun k hk => ?_⟩
      · simp only [masks, hb, List.append_assoc, List.singleton_append, Nat.add_zero]; exact nthN_at _ _ _
      · simp only [masks, hb, List.append_assoc, List.singleton_append]
        rw [nthN_append _ _ _ (by simpa using hk)]
    | succ j =>
      obtain ⟨pre, h1, h2⟩ := ih (acc ++ [maskOf (waitsOf o0) acc]) j o (by simpa using h)
      simp only [List.length_append, List.length_singleton] at h1 h2
      exact ⟨pre, by rw [show acc.length + (j + 1) = acc.length + 1 + j by omega]; exact h1, fun k hk => h2 k (by omega)⟩
theorem allLt_of {j : Nat} : ∀ {l : List Nat}, allLt j l = true → ∀ x ∈ l, x < j
  | [], _, x, hx => by simp at hx
  | y :: l, h, x, hx => by
    simp only [allLt, Bool.and_eq_true] at h
    rcases List.mem_cons.1 hx with rfl | hx
    · exact blt_lt h.1
    · exact allLt_of h.2 x hx
theorem apartAll_of {all : List Oper} {b : Oper} {m : Nat} : ∀ {l : List Oper} {i k : Nat} {a : Oper}, apartAll all b m l i = true → l[k]? = some a → bitB m (i + k) = true ∨ apartS all a b = true
  | [], i, k, a, _, h => by simp at h
  | x :: l, i, 0, a, h, hk => by
    obtain rfl : x = a := by simpa using hk
    simp only [apartAll, Bool.and_eq_true, Bool.or_eq_true] at h
    exact h.1
  | x :: l, i, k + 1, a, h, hk => by
    simp only [apartAll, Bool.and_eq_true] at h
    have := apartAll_of (k := k) h.2 (by simpa using hk)
    rwa [show i + 1 + k = i + (k + 1) by omega] at this
theorem drawOk_of {all : List Oper} {ms : List Nat} : ∀ {l : List Oper} {j k : Nat} {b : Oper}, drawOk all ms l j = true → l[k]? = some b → allLt (j + k) (waitsOf b) = true ∧ apartAll all b (nthN ms (j + k)) (all.take (j + k)) 0 = true
  | [], j, k, b, _, h => by simp at h
  | x :: l, j, 0, b, h, hk => by
    obtain rfl : x = b := by simpa using hk
    simp only [drawOk, Bool.and_eq_true] at h
    exact h.1
  | x :: l, j, k + 1, b, h, hk => by
    simp only [drawOk, Bool.and_eq_true] at h
    have := drawOk_of (k := k) h.2 (by simpa using hk)
    rwa [show j + 1 + k = j + (k + 1) by omega] at this

/-! positions of the path -/
theorem POk_len {all : List Oper} {mks : List Nat} : ∀ {os : List Oper} {j : Nat} {T : Fr Y} {h : Hp Y} {i : Nat} {prev : List (Nat × DR Y)} {ds : List (DR Y)}, POk E all mks os j T h i prev ds → os.length = ds.length
  | [], _, _, _, _, _, [], _ => rfl
  | _ :: os, _, _, _, _, _, _ :: ds, h => by simp [POk_len h.2]
theorem POk_i {all : List Oper} {mks : List Nat} : ∀ {os : List Oper} {j : Nat} {T : Fr Y} {h : Hp Y} {i : Nat} {prev : List (Nat × DR Y)} {ds : List (DR Y)}, POk E all mks os j T h i prev ds →
    i ≤ iD ds i ∧ ∀ (m : Nat) (d : DR Y), ds[m]? = some d → i ≤ d.i ∧ d.i + d.r.n ≤ iD ds i ∧ ∀ (m' : Nat) (d' : DR Y), m < m' → ds[m']? = some d' → d.i + d.r.n ≤ d'.i
  | [], _, _, _, _, _, [], _ => ⟨Nat.le_refl _, fun m d h => by simp at h⟩
  | o :: os, j, T, h, i, prev, d0 :: ds, hp => by
    obtain ⟨⟨rfl, _⟩, h2⟩ := hp
    obtain ⟨ih1, ih2⟩ := POk_i h2
    simp only [iD]
    refine ⟨by omega, fun m d hm => ?_⟩
    cases m with
    | zero =>
      obtain rfl : d0 = d := by simpa using hm
      refine ⟨Nat.le_refl _, ih1, fun m' d' hlt hm' => ?_⟩
      cases m' with
      | zero => omega
      | succ m' => exact (ih2 m' d' (by simpa using hm')).1
    | succ m =>
      obtain ⟨a, b, c⟩ := ih2 m d (by simpa using hm)
      refine ⟨by omega, b, fun m' d' hlt hm' => ?_⟩
      cases m' with
      | zero => omega
      | succ m' => exact c m' d' (by omega) (by simpa using hm')
theorem msD_mem : ∀ (ds : List (DR Y)) (ms : List Nat) (m : Nat) (d : DR Y), ds[m]? = some d → ∀ b ∈ d.r.mods, b ∈ msD ds ms
  | [], ms, m, d, h => by simp at h
  | d0 :: ds, ms, 0, d, h => by
    obtain rfl : d0 = d := by simpa using h
    intro b hb
    have : ∀ (ds : List (DR Y)) (ms : List Nat), b ∈ ms → b ∈ msD ds ms := by
      intro ds
      induction ds with
      | nil => intro ms h; exact h
      | cons d ds ih => intro ms h; exact ih _ (by simp [h])
    exact this ds _ (by simp [hb])
  | d0 :: ds, ms, m + 1, d, h => msD_mem ds _ m d (by simpa using h)

theorem POk_at {all : List Oper} {mks : List Nat} : ∀ {os : List Oper} {j0 : Nat} {T : Fr Y} {h : Hp Y} {i : Nat} {prev : List (Nat × DR Y)} {ds : List (DR Y)}, POk E all mks os j0 T h i prev ds → ∀ (m : Nat) (o : Oper) (d : DR Y), os[m]? = some o → ds[m]? = some d →
    ∃ prev', (∀ p ∈ prev, p ∈ prev') ∧ (∀ (m' : Nat) (d' : DR Y), m' < m → ds[m']? = some d' → (j0 + m', d') ∈ prev') ∧ DomLt (memD ds (fun x => Nat.blt x m) h) d.i ∧ ROk (memD ds (fun x => Nat.blt x m) h) d.r ∧
      apartDs d (unord (nthN mks (j0 + m)) prev') = true ∧ OneOk E all o (tD os ds (fun x => Nat.blt x m) T) (viewD (memD ds (fun x => Nat.blt x m) h) (unord (nthN mks (j0 + m)) prev')) d := by
  intro os
  induction os with
  | nil => intro j0 T h i prev ds hp m o d hm; simp at hm
  | cons o0 os ih =>
    intro j0 T h i prev ds hp m o d hm hd
    cases ds with
    | nil => exact hp.elim
    | cons d0 ds =>
      obtain ⟨⟨hi, hD, hR, hA, hO⟩, h2⟩ := hp
      cases m with
      | zero =>
        obtain rfl : o0 = o := by simpa using hm
        obtain rfl : d0 = d := by simpa using hd
        have e1 : memD (d0 :: ds) (fun x => Nat.blt x 0) h = h := by
          have : (fun x => Nat.blt x 0) = fun _ => false := by funext x; rw [← Bool.not_eq_true, Nat.blt, Nat.ble_eq]; omega
          rw [this]; exact memD_false _ _
        have e2 : tD (o0 :: os) (d0 :: ds) (fun x => Nat.blt x 0) T = T := by
          have : (fun x => Nat.blt x 0) = fun _ => false := by funext x; rw [← Bool.not_eq_true, Nat.blt, Nat.ble_eq]; omega
          rw [this]; exact tD_false _ _ _
        rw [e1, e2]
        exact ⟨prev, fun p hp => hp, fun m' d' h => by omega, by rw [hi]; exact hD, hR, hA, hO⟩
      | succ m =>
        obtain ⟨prev', p1, p2, p3⟩ := ih h2 m o d (by simpa using hm) (by simpa using hd)
        have eb : (fun x => Nat.blt (x + 1) (m + 1)) = fun x => Nat.blt x m := by funext x; rfl
        have e1 : memD (d0 :: ds) (fun x => Nat.blt x (m + 1)) h = memD ds (fun x => Nat.blt x m) (patch h i d0.r) := by
          simp only [memD]; rw [eb, hi]; rfl
        have e2 : tD (o0 :: os) (d0 :: ds) (fun x => Nat.blt x (m + 1)) T = tD os ds (fun x => Nat.blt x m) (updO T o0.dst d0.r.v) := by
          simp only [tD]; rw [eb]; rfl
        rw [e1, e2, show j0 + (m + 1) = j0 + 1 + m by omega]
        refine ⟨prev', fun p hp => p1 p (by simp [hp]), fun m' d' hlt hm' => ?_, p3⟩
        cases m' with
        | zero => obtain rfl : d0 = d' := by simpa using hm'
                  exact p1 _ (by simp)
        | succ m' => have := p2 m' d' (by omega) (by simpa using hm')
                     rwa [show j0 + 1 + m' = j0 + (m' + 1) by omega] at this
end
end Go.Proofs.YtcaomfbcchemnaaDoor
