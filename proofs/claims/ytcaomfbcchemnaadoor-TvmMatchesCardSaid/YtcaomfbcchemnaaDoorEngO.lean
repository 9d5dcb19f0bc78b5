/- A symbolic executor, part O: statements whose order is drawn, run. -/
import Derived.Test.YtcaomfbcchemnaaDoorEngN
namespace Go.Proofs.YtcaomfbcchemnaaDoor
open Go.RowKit
set_option linter.unusedVariables false

section
variable {Y : Thy} {E : Eng Y}

theorem cntF_zero {listed : Array Bool} {n : Nat} (h : cntF listed n = 0) : ∀ j, j < n → listed.getD j true = true := by
  intro j hj
  by_cases hq : listed.getD j true = true
  · exact hq
  · have : j ∈ (List.range n).filter fun j => !listed.getD j true := List.mem_filter.2 ⟨List.mem_range.2 hj, by simp [hq]⟩
    unfold cntF at h
    rw [List.length_eq_zero_iff.1 h] at this
    simp at this
theorem cntF_succ {listed : Array Bool} {n m : Nat} (h : cntF listed n = m + 1) : ∃ j, j < n ∧ listed.getD j true = false ∧ ∀ k, k < j → listed.getD k true = true := by
  have hex : ∃ j, j < n ∧ listed.getD j true = false := by
    have h1 : (List.range n).filter (fun j => !listed.getD j true) ≠ [] := fun e => by unfold cntF at h; rw [e] at h; simp at h
    obtain ⟨j, hj⟩ := List.exists_mem_of_ne_nil _ h1
    obtain ⟨hj1, hj2⟩ := List.mem_filter.1 hj
    exact ⟨j, List.mem_range.1 hj1, by simpa using hj2⟩
  have : ∀ k, ∀ j, j < n → listed.getD j true = false → j ≤ k → ∃ j, j < n ∧ listed.getD j true = false ∧ ∀ k, k < j → listed.getD k true = true := by
    intro k
    induction k with
    | zero => intro j hj h hk; exact ⟨j, hj, h, fun k hk' => absurd hk' (by omega)⟩
    | succ k ihk =>
      intro j hj h hk
      by_cases hex2 : ∃ i, i < j ∧ listed.getD i true = false
      · obtain ⟨i, hij, hi⟩ := hex2
        exact ihk i (by omega) hi (by omega)
      · refine ⟨j, hj, h, fun i hi => ?_⟩
        by_cases h3 : listed.getD i true = true
        · exact h3
        · exact absurd ⟨i, hi, by simpa using h3⟩ hex2
  obtain ⟨j, hj, h⟩ := hex
  exact this j j hj h (Nat.le_refl _)

theorem mem_tmpsOf : ∀ {l : List Operand} {t : Nat}, Operand.tmp t ∈ l → t ∈ tmpsOf l
  | [], t, h => by simp at h
  | x :: l, t, h => by
    rcases List.mem_cons.1 h with rfl | h
    · simp [tmpsOf]
    · have := mem_tmpsOf h
      cases x <;> simp [tmpsOf, this]
theorem apartS_of {all : List Oper} {a b : Oper} (h : apartS all a b = true) : (∀ t, a.dst = some t → t ∉ readsOf all b) ∧ (∀ t, b.dst = some t → t ∉ readsOf all a) ∧ (∀ t, a.dst = some t → b.dst ≠ some t) := by
  simp only [apartS, Bool.and_eq_true, Bool.not_eq_true'] at h
  obtain ⟨⟨h1, h2⟩, h3⟩ := h
  refine ⟨fun t ht hm => ?_, fun t ht hm => ?_, fun t ht hb => ?_⟩
  · rw [ht] at h1; simp only [memO] at h1; rw [memB_iff.2 hm] at h1; cases h1
  · rw [ht] at h2; simp only [memO] at h2; rw [memB_iff.2 hm] at h2; cases h2
  · rw [ht, hb] at h3; simp [sameO] at h3

theorem rgnD_run (hmix : E.P.follows .mixedOrders = true) {os : List Oper} {T : Fr Y} {h : Hp Y} {i N : Nat} {ms : List Nat} {ds : List (DR Y)} (hok : drawOk os (masks os []) os 0 = true) (hp : POk E os (masks os []) os 0 T h i [] ds)
    (hlt : ∀ (m : Nat) (o : Oper) (d : DR Y), os[m]? = some o → ds[m]? = some d → d.r.v ≠ .unk → ∀ x, o.dst = some x → x < N) (id : Nat)
    (B : Nat) (σ : Pl) (g : GH) (w : World) (a : Act) (Q : Exit → Act → World → Prop) (hI : Inv E B σ h g w) (hB : B ≤ w.heap.size) (hfree : ∀ b, i ≤ b → b < iD ds i → σ b = none) (hF : FrOk E σ g T a) (hN : a.tmps.size = N)
    (hQ : ∀ a' w', Aft E B N i (iD ds i) (msD ds ms) σ g w a.defers (tD os ds (fun _ => true) T) (memD ds (fun _ => true) h) a' w' → Q .normal a' w') : (Code.region id os.toArray true).wp E.P Q a w := by
  classical
  have hlen := POk_len hp
  obtain ⟨hii, hids⟩ := POk_i hp
  have hget : ∀ m o, os[m]? = some o → ∃ d, ds[m]? = some d := fun m o hm => ⟨ds[m]'(by rw [← hlen]; exact (List.getElem?_eq_some_iff.1 hm).1), List.getElem?_eq_getElem _⟩
  have hgetd : ∀ m d, ds[m]? = some d → ∃ o, os[m]? = some o := fun m d hm => ⟨os[m]'(by rw [hlen]; exact (List.getElem?_eq_some_iff.1 hm).1), List.getElem?_eq_getElem _⟩
  have hw_lt : ∀ m o, os[m]? = some o → ∀ k ∈ waitsOf o, k < m := fun m o hm k hk => by
    have := (drawOk_of hok hm).1
    rw [Nat.zero_add] at this
    exact allLt_of this k hk
  -- what is waited for has run
  have anc : ∀ (D : Nat → Bool), (∀ m o, os[m]? = some o → D m = true → ∀ k ∈ waitsOf o, D k = true) → ∀ m o, os[m]? = some o → (∀ k ∈ waitsOf o, D k = true) → ∀ k, bitB (nthN (masks os []) m) k = true → D k = true := by
    intro D hcl m
    induction m using Nat.strongRecOn with
    | _ m ih =>
      intro o hm hwt k hb
      obtain ⟨pre, h1, h2⟩ := masks_at os [] m o hm
      simp only [List.length_nil, Nat.zero_add] at h1 h2
      rw [h1] at hb
      obtain ⟨j, hj, hb⟩ := maskOf_bit hb
      have hjm := hw_lt m o hm j hj
      rcases hb with rfl | hb
      · exact hwt j hj
      · rw [h2 j hjm] at hb
        have hjl : j < os.length := by have := (List.getElem?_eq_some_iff.1 hm).1; omega
        exact ih j hjm os[j] (List.getElem?_eq_getElem hjl) (hcl j _ (List.getElem?_eq_getElem hjl) (hwt j hj)) k hb
  -- two operations, m before m' in the text
  have pairS : ∀ m m' o o', m < m' → os[m]? = some o → os[m']? = some o' → bitB (nthN (masks os []) m') m = true ∨ apartS os o o' = true := by
    intro m m' o o' hlt' hm hm'
    have := (drawOk_of hok hm').2
    rw [Nat.zero_add] at this
    have := apartAll_of (k := m) (a := o) this (by rw [List.getElem?_take, if_pos hlt']; exact hm)
    rwa [Nat.zero_add] at this
  have pairD : ∀ m m' d d' o', m < m' → ds[m]? = some d → ds[m']? = some d' → os[m']? = some o' → bitB (nthN (masks os []) m') m = true ∨ apartD d d' = true := by
    intro m m' d d' o' hlt' hd hd' ho'
    obtain ⟨prev', _, p2, _, _, hA, _⟩ := POk_at hp m' o' d' ho' hd'
    by_cases hb : bitB (nthN (masks os []) m') m = true
    · exact .inl hb
    · right
      rw [Bool.not_eq_true] at hb
      have := p2 m d hlt' hd
      rw [Nat.zero_add] at this hA
      exact apartDs_of hA d (unord_of this hb)
  have key : ∀ (m : Nat) (listed : Array Bool) (a1 : Act) (w1 : World), listed.size = os.length → cntF listed os.length = m →
      (∀ k o, os[k]? = some o → listed.getD k false = true → ∀ x ∈ waitsOf o, listed.getD x false = true) → a1.defers = a.defers → a1.tmps.size = N →
      (∃ σ1 g1, Stp i (iD ds i - i) (msD ds ms) σ g w σ1 g1 w1 ∧ Inv E B σ1 (memD ds (fun x => listed.getD x false) h) g1 w1 ∧ FrOk E σ1 g1 (tD os ds (fun x => listed.getD x false) T) a1 ∧
        (∀ b, σ1 b ≠ none → σ b ≠ none ∨ ∃ k d, listed.getD k false = true ∧ ds[k]? = some d ∧ d.i ≤ b ∧ b < d.i + d.r.n)) →
      wpAny E.P .any os.toArray Q m listed a1 w1 := by
    intro m
    induction m with
    | zero =>
      intro listed a1 w1 hsz hc hcl hdf hN1 ⟨σ1, g1, hS, hI1, hF1, _⟩
      have hall := cntF_zero hc
      have hall' : ∀ k, k < os.length → listed.getD k false = true := by
        intro k hk
        have := hall k hk
        rw [Array.getD_eq_getD_getElem?, Array.getElem?_eq_getElem (by omega)] at this ⊢
        exact this
      refine ⟨?_, ?_⟩
      · unfold Region.ready
        rw [List.filter_eq_nil_iff]
        intro k hk
        have hk' : k < os.length := by simpa using hk
        rw [hall k hk']
        simp
      · refine hQ a1 w1 ⟨hdf, hN1, σ1, g1, hS, ?_, ?_⟩
        · have : memD ds (fun _ => true) h = memD ds (fun x => listed.getD x false) h := by
            funext b
            exact memD_congr ds _ _ h h b (fun k d hk _ => (hall' k (by rw [hlen]; exact (List.getElem?_eq_some_iff.1 hk).1)).symm) rfl
          rw [this]; exact hI1
        · have : tD os ds (fun _ => true) T = tD os ds (fun x => listed.getD x false) T := by
            funext t
            exact tD_congr os ds _ _ T T t (fun k o hk _ => (hall' k (List.getElem?_eq_some_iff.1 hk).1).symm) rfl
          rw [this]; exact hF1
    | succ m ih =>
      intro listed a1 w1 hsz hc hcl hdf hN1 ⟨σ1, g1, hS, hI1, hF1, htrack⟩
      have hge : ∀ j, j < os.length → listed.getD j false = listed.getD j true := by
        intro j hj
        rw [Array.getD_eq_getD_getElem?, Array.getD_eq_getD_getElem?, Array.getElem?_eq_getElem (by omega)]
        rfl
      -- one may come up
      obtain ⟨j0, hj0, hf0, hbef⟩ := cntF_succ hc
      have hr0 : j0 ∈ Region.ready .any os.toArray listed := by
        refine List.mem_filter.2 ⟨List.mem_range.2 (by simpa using hj0), ?_⟩
        rw [hf0]
        rw [show (os.toArray[j0]?) = some os[j0] by simp [hj0]]
        simp only [Option.map_some, Option.getD_some, Bool.not_false, Bool.true_and, Array.all_eq_true, Bool.or_eq_true, Bool.not_eq_true']
        intro e he
        by_cases hbd : Region.binds .any os[j0].after[e] = true
        · right
          have hmem : os[j0].after[e].on ∈ waitsOf os[j0] := by
            unfold waitsOf
            exact List.mem_map.2 ⟨os[j0].after[e], List.mem_filter.2 ⟨by simp, hbd⟩, rfl⟩
          have := hw_lt j0 _ (List.getElem?_eq_getElem hj0) _ hmem
          rw [hge _ (by omega)]
          exact hbef _ this
        · left; simpa using hbd
      refine ⟨fun e => absurd hr0 (by rw [e]; simp), fun j hj => ?_⟩
      obtain ⟨hj1, hj2⟩ := List.mem_filter.1 hj
      have hjl : j < os.length := by simpa using List.mem_range.1 hj1
      rw [show (os.toArray[j]?) = some os[j] by simp [hjl]] at hj2
      simp only [Option.map_some, Option.getD_some, Bool.and_eq_true, Bool.not_eq_true', Array.all_eq_true, Bool.or_eq_true] at hj2
      obtain ⟨hjf, hje⟩ := hj2
      have hoj : os[j]? = some os[j] := List.getElem?_eq_getElem hjl
      generalize ho : os[j] = o at hoj hje
      obtain ⟨d, hdj⟩ := hget j o hoj
      have hjD : listed.getD j false = false := by rw [hge j hjl]; exact hjf
      have hwt : ∀ k ∈ waitsOf o, listed.getD k false = true := by
        intro k hk
        unfold waitsOf at hk
        obtain ⟨e, he, rfl⟩ := List.mem_map.1 hk
        obtain ⟨he1, he2⟩ := List.mem_filter.1 he
        obtain ⟨x, hx, rfl⟩ := List.getElem_of_mem he1
        have hx' : x < o.after.size := by simpa using hx
        rcases hje x hx' with c | c
        · rw [show o.after[x] = o.after.toList[x] by simp] at c; rw [c] at he2; cases he2
        · simpa using c
      obtain ⟨prev', _, p2, hDom, hR, hA, hOne⟩ := POk_at hp j o d hoj hdj
      rw [Nat.zero_add] at hA hOne
      have p2 : ∀ (m' : Nat) (d' : DR Y), m' < j → ds[m']? = some d' → (m', d') ∈ prev' := fun m' d' h1 h2 => by have := p2 m' d' h1 h2; rwa [Nat.zero_add] at this
      -- those that run before, and those that do not
      have before : ∀ k, bitB (nthN (masks os []) j) k = true → listed.getD k false = true := fun k hk => anc _ hcl j o hoj hwt k hk
      have behind : ∀ k o', os[k]? = some o' → bitB (nthN (masks os []) k) j = true → listed.getD k false = false := by
        intro k o' hk hb
        cases hq : listed.getD k false with
        | false => rfl
        | true =>
          have := anc _ hcl k o' hk (hcl k o' hk hq) j hb
          rw [hjD] at this; cases this
      -- the frame as the operation reads it
      have hslot : ∀ t ∈ readsOf os o, tD os ds (fun x => listed.getD x false) T t = tD os ds (fun x => Nat.blt x j) T t := by
        intro t ht
        refine tD_congr os ds _ _ T T t (fun k o' hk hkt => ?_) rfl
        rcases Nat.lt_trichotomy k j with hkj | rfl | hkj
        · rw [show Nat.blt k j = true by rw [Nat.blt, Nat.ble_eq]; exact hkj]
          rcases pairS k j o' o hkj hk hoj with c | c
          · exact before k c
          · exact absurd ht ((apartS_of c).1 t hkt)
        · rw [hjD]; symm; rw [← Bool.not_eq_true, Nat.blt, Nat.ble_eq]; omega
        · rw [show Nat.blt k j = false by rw [← Bool.not_eq_true, Nat.blt, Nat.ble_eq]; omega]
          rcases pairS j k o o' hkj hoj hk with c | c
          · exact behind k o' hk c
          · exact absurd ht ((apartS_of c).2.1 t hkt)
      -- memory as the operation sees it
      have hsub : ∀ b x, (Rd d.r b ∨ b ∈ d.r.mods) → viewD (memD ds (fun x => Nat.blt x j) h) (unord (nthN (masks os []) j) prev') b = some x → memD ds (fun x => listed.getD x false) h b = some x := by
        intro b x hrd hv
        obtain ⟨hv1, hv2⟩ := viewD_sub hv
        rw [← hv1]
        have hblt := hDom b (by rw [hv1]; simp)
        refine memD_congr ds _ _ h h b (fun k d' hk hw => ?_) rfl
        rcases Nat.lt_trichotomy k j with hkj | rfl | hkj
        · rw [show Nat.blt k j = true by rw [Nat.blt, Nat.ble_eq]; exact hkj]
          by_cases hb : bitB (nthN (masks os []) j) k = true
          · exact before k hb
          · rw [Bool.not_eq_true] at hb
            have hun := unord_of (p2 k d' hkj hk) hb
            have hap := apartD_of (apartDs_of hA d' hun)
            rcases hw with hw | hw
            · rcases hrd with hrd | hrd
              · exact absurd hw (hap.2.2.1 b hrd)
              · exact absurd hrd (hap.1 b hw)
            · exact absurd hw (hv2 d' hun)
        · rw [hjD]; symm; rw [← Bool.not_eq_true, Nat.blt, Nat.ble_eq]; omega
        · rw [show Nat.blt k j = false by rw [← Bool.not_eq_true, Nat.blt, Nat.ble_eq]; omega]
          obtain ⟨o', ho'⟩ := hgetd k d' hk
          rcases pairD j k d d' o' hkj hdj hk ho' with c | c
          · exact behind k o' ho' c
          · have hap := apartD_of c
            rcases hw with hw | hw
            · rcases hrd with hrd | hrd
              · exact absurd hw (hap.2.2.2 b hrd)
              · exact absurd hw (hap.1 b hrd)
            · have := (hids j d hdj).2.2 k d' hkj hk
              omega
      -- where it has run, too
      have hset : ∀ x, (listed.setIfInBounds j true).getD x false = if x = j then true else listed.getD x false := by
        intro x
        simp only [Array.getD_eq_getD_getElem?, Array.getElem?_setIfInBounds]
        by_cases c : j = x
        · subst c; simp [hsz, hjl]
        · rw [if_neg c, if_neg (fun h' => c h'.symm)]
      have hsetf : (fun x => (listed.setIfInBounds j true).getD x false) = fun x => if x = j then true else listed.getD x false := funext hset
      have hmemD : memD ds (fun x => (listed.setIfInBounds j true).getD x false) h = patch (memD ds (fun x => listed.getD x false) h) d.i d.r := by
        funext b
        rw [hsetf]
        refine memD_set b ds _ h j d hdj hjD fun hw k d' hjk hk hw' => ?_
        obtain ⟨o', ho'⟩ := hgetd k d' hk
        rcases pairD j k d d' o' hjk hdj hk ho' with c | c
        · exact behind k o' ho' c
        · have hap := apartD_of c
          have hii2 := (hids j d hdj).2.2 k d' hjk hk
          exfalso
          rcases hw with hw | hw
          · rcases hw' with hw' | hw'
            · exact hap.1 b hw hw'
            · have := hDom b (hR b hw); omega
          · rcases hw' with hw' | hw'
            · exact hap.2.1 b hw' hw
            · omega
      have htD : tD os ds (fun x => (listed.setIfInBounds j true).getD x false) T = updO (tD os ds (fun x => listed.getD x false) T) o.dst d.r.v := by
        funext t
        rw [hsetf]
        refine tD_set t os ds _ T j o d hoj hdj hjD fun hw k o' hjk hk hw' => ?_
        rcases pairS j k o o' hjk hoj hk with c | c
        · exact behind k o' hk c
        · exact absurd hw' ((apartS_of c).2.2 t hw)
      have hfreej : ∀ b, d.i ≤ b → b < d.i + d.r.n → σ1 b = none := by
        intro b h1 h2
        cases hq : σ1 b with
        | none => rfl
        | some p =>
          exfalso
          have hr := hids j d hdj
          rcases htrack b (by rw [hq]; simp) with c | ⟨k, d', c1, c2, c3, c4⟩
          · exact c (hfree b (by omega) (by omega))
          · rcases Nat.lt_trichotomy k j with hkj | rfl | hkj
            · have := (hids k d' c2).2.2 j d hkj hdj; omega
            · rw [hjD] at c1; cases c1
            · have := hr.2.2 k d' hkj c2; omega
      have hrange := hids j d hdj
      -- the rest
      have rest : ∀ (a2 : Act) (w2 : World) (σ2 : Pl) (g2 : GH), a2.defers = a.defers → a2.tmps.size = N → Stp d.i d.r.n d.r.mods σ1 g1 w1 σ2 g2 w2 → Inv E B σ2 (patch (memD ds (fun x => listed.getD x false) h) d.i d.r) g2 w2 →
          FrOk E σ2 g2 (updO (tD os ds (fun x => listed.getD x false) T) o.dst d.r.v) a2 → wpAny E.P .any os.toArray Q m (listed.setIfInBounds j true) a2 w2 := by
        intro a2 w2 σ2 g2 k1 k2 k3 k4 k5
        refine ih _ a2 w2 (by simpa using hsz) ?_ ?_ k1 k2 ⟨σ2, g2, ?_, ?_, ?_, ?_⟩
        · have := cnt_set listed j os.length hjl hjf
          omega
        · intro k o' hk hkD x hx
          rw [hset] at hkD ⊢
          by_cases c : k = j
          · subst c
            rw [hoj] at hk; cases hk
            have hxt := hwt x hx
            split <;> simp [hxt]
          · rw [if_neg c] at hkD
            have hxt := hcl k o' hk hkD x hx
            split <;> simp [hxt]
        · exact hS.join k3 (Nat.le_refl _) (by omega) (by omega) (by omega) (fun b hb => hb) (fun b hb => msD_mem ds ms j d hdj b hb)
        · rw [hmemD]; exact k4
        · rw [htD]; exact k5
        · intro b hb
          obtain ⟨p, hp'⟩ := Option.ne_none_iff_exists'.1 hb
          rcases k3.snew b p hp' with c | c
          · rcases htrack b (by rw [c]; simp) with c2 | ⟨k, d', c2, c3⟩
            · exact .inl c2
            · exact .inr ⟨k, d', by rw [hset]; split <;> simp [c2], c3⟩
          · exact .inr ⟨j, d, by rw [hset]; simp, hdj, c⟩
      -- it runs
      have runs : OpTri E o (tD os ds (fun x => Nat.blt x j) T) (viewD (memD ds (fun x => Nat.blt x j) h) (unord (nthN (masks os []) j) prev')) d.i d.r → o.wp E.P a1 w1 (wpAny E.P .any os.toArray Q m (listed.setIfInBounds j true)) Q := by
        intro htri
        have hIh : Inv E B σ1 (fun b => if Rd d.r b then viewD (memD ds (fun x => Nat.blt x j) h) (unord (nthN (masks os []) j) prev') b else none) g1 w1 :=
          hI1.sub fun b x hx => by
            by_cases c : Rd d.r b
            · simp only [c, if_true] at hx; exact hsub b x (.inl c) hx
            · simp only [c, if_false] at hx; cases hx
        refine OpPost.wp (htri.2 B σ1 g1 w1 a1.eval _ (fun b hb => if_pos hb) hIh (Nat.le_trans hB hS.size) hfreej ?_) ?_
        · intro x hx
          cases x with
          | tmp t =>
            have ht : t ∈ readsOf os o := by
              have := mem_tmpsOf hx
              unfold readsOf
              split
              · exact this
              · split <;> simp [this]
            have := hF1 t
            rw [hslot t ht] at this
            exact this
          | const v => exact den_ofVal E σ1 g1 v
          | global n => exact .val _
          | func f => exact (FrOk.ev hF1 (.func f))
        · rintro u w2 ⟨σ2, g2, hS2, hI2, hv⟩
          refine rest _ w2 σ2 g2 (by rw [put_defers]; exact hdf) (by rw [put_size]; exact hN1) hS2 ?_ ?_
          · have := inv_patch (r := ⟨d.r.v, d.r.n, d.r.mods, patch (fun b => if Rd d.r b then viewD (memD ds (fun x => Nat.blt x j) h) (unord (nthN (masks os []) j) prev') b else none) d.i d.r, d.r.rd⟩) hI1 hI2 hS2 (fun b hb => by
              obtain ⟨x, hx⟩ := Option.ne_none_iff_exists'.1 (htri.1 b hb)
              rw [hsub b x (.inr hb) hx]; simp) hfreej rfl rfl rfl
            have e : patch (memD ds (fun x => listed.getD x false) h) d.i ⟨d.r.v, d.r.n, d.r.mods, patch (fun b => if Rd d.r b then viewD (memD ds (fun x => Nat.blt x j) h) (unord (nthN (masks os []) j) prev') b else none) d.i d.r, d.r.rd⟩ = patch (memD ds (fun x => listed.getD x false) h) d.i d.r := by
              funext b
              rw [patch_eq, patch_eq]
              by_cases c : b ∈ d.r.mods ∨ (d.i ≤ b ∧ b < d.i + d.r.n)
              · rw [if_pos c, if_pos c]; simp only; rw [patch_eq, if_pos c]
              · rw [if_neg c, if_neg c]
            rw [e] at this; exact this
          · have hF2 := hF1.mono hS2.sig hS2.gle
            by_cases hu : d.r.v = .unk
            · rw [hu]
              cases hdst : o.dst with
              | none => exact hF2
              | some t => exact hF2.skip t u
            · cases hdst : o.dst with
              | none => exact hF2
              | some t => exact hF2.put (by rw [hN1]; exact hlt j o d hoj hdj hu t hdst) hv
      unfold wpOp
      rw [show (os.toArray[j]?) = some o by simp [hjl, ho]]
      simp only
      unfold OneOk at hOne
      cases hgd : o.guard with
      | none =>
        rw [hgd] at hOne
        rw [if_pos (by unfold Region.wanted; rw [hgd])]
        exact .inl (runs hOne)
      | some gb =>
        obtain ⟨gi, gv⟩ := gb
        rw [hgd] at hOne
        obtain ⟨s, l, x, hs, hT, hcase⟩ := hOne
        have hsr : s ∈ readsOf os o := by unfold readsOf; rw [hgd]; simp only; rw [hs]; simp
        have yield : yielded os.toArray a1.tmps gi = some x := by
          have h1 := hF1 s
          rw [hslot s hsr, hT] at h1
          generalize hv : a1.eval (.tmp s) = v at h1
          cases h1
          have hv' : a1.tmps.getD s undef = .bool x := hv
          unfold dstOf at hs
          split at hs
          · rename_i og hog
            unfold yielded
            rw [Array.getD_eq_getD_getElem?] at hv'
            simp only [List.getElem?_toArray, hog, Option.bind_some, hs]
            cases hq : a1.tmps[s]? with
            | none => rw [hq] at hv'; cases hv'
            | some u => rw [hq] at hv'; simp at hv'; rw [hv']
          · cases hs
        rcases hcase with ⟨hxb, htri⟩ | ⟨hxb, hr⟩
        · rw [if_pos (by unfold Region.wanted; rw [hgd]; simp [yield, hxb])]
          exact .inl (runs htri)
        · rw [if_neg (by unfold Region.wanted; rw [hgd]; simp [yield, hxb])]
          refine rest _ w1 σ1 g1 (by rw [put_defers]; exact hdf) (by rw [put_size]; exact hN1) ?_ ?_ ?_
          · rw [hr]; exact Stp.refl _ _ _ _
          · rw [hr, patch_quiet]; exact hI1
          · rw [hr]
            cases hdst : o.dst with
            | none => exact hF1
            | some t => exact hF1.skip t undef
  refine wp_region_any hmix ?_
  have hdr : Inv E B σ h g { w with drawn := w.drawn + 1 } := ⟨hI.gc, hI.gm, hI.blk, hI.inj, hI.base, hI.fz, hI.fm, hI.glob⟩
  have := key os.length (Array.replicate os.length false) a { w with drawn := w.drawn + 1 } (by simp) ?_ ?_ rfl hN ⟨σ, g, ?_, ?_, ?_, fun b hb => .inl hb⟩
  · simpa using this
  · unfold cntF
    rw [List.filter_eq_self.2, List.length_range]
    intro j hj
    have : j < os.length := List.mem_range.1 hj
    simp [Array.getD, this]
  · intro k o hk hkD
    have : k < os.length := (List.getElem?_eq_some_iff.1 hk).1
    simp [Array.getD, this] at hkD
  · exact (⟨.refl _, fun _ _ h => .inl h, .refl _, fun _ _ _ h => .inl h, fun _ _ h => .inl h, fun _ _ _ => rfl, Nat.le_refl _, rfl, rfl, rfl, fun _ _ _ h k => by rw [h] at k; cases k⟩)
  · have : (fun x => (Array.replicate os.length false).getD x false) = fun _ => false := by
      funext x
      by_cases c : x < os.length <;> simp [Array.getD, c]
    rw [this, memD_false]; exact hdr
  · have : (fun x => (Array.replicate os.length false).getD x false) = fun _ => false := by
      funext x
      by_cases c : x < os.length <;> simp [Array.getD, c]
    rw [this, tD_false]; exact hF

theorem POk_end {all : List Oper} {mks : List Nat} : ∀ {os : List Oper} {j : Nat} {T : Fr Y} {h : Hp Y} {i : Nat} {prev : List (Nat × DR Y)} {ds : List (DR Y)}, DomLt h i → POk E all mks os j T h i prev ds →
    Dom h i (memD ds (fun _ => true) h) (iD ds i) ∧ ∀ ms, ∃ m, msD ds ms = m ++ ms ∧ ModsOk h i (iD ds i) m
  | [], _, _, _, _, _, [], hD, _ => ⟨⟨hD, fun b hb => .inl hb⟩, fun ms => ⟨[], rfl, fun b hb => by simp at hb⟩⟩
  | o :: os, j, T, h, i, prev, d :: ds, hD, hp => by
    obtain ⟨⟨rfl, _, hR, _, _⟩, h2⟩ := hp
    obtain ⟨ih1, ih2⟩ := POk_end (hD.patch hR) h2
    have hii := (POk_i h2).1
    have hup : ∀ b, patch h d.i d.r b ≠ none → h b ≠ none ∨ d.i ≤ b := by
      intro b h1
      rw [patch_eq] at h1
      split at h1
      · rename_i c
        rcases c with c | c
        · exact .inl (hR b c)
        · exact .inr c.1
      · exact .inl h1
    refine ⟨⟨ih1.1, fun b hb => ?_⟩, fun ms => ?_⟩
    · rcases ih1.2 b hb with c | c
      · exact hup b c
      · right; omega
    · obtain ⟨m, h3, h4⟩ := ih2 (d.r.mods ++ ms)
      refine ⟨m ++ d.r.mods, by simp [msD, h3], fun b hb => ?_⟩
      simp only [iD]
      rcases List.mem_append.1 hb with hb | hb
      · rcases h4 b hb with c | c
        · rw [patch_eq] at c
          split at c
          · rename_i c'
            rcases c' with c' | c'
            · exact .inl (hR b c')
            · right; omega
          · exact .inl c
        · right; omega
      · exact .inl (hR b hb)
end
end Go.Proofs.YtcaomfbcchemnaaDoor
