/- A symbolic executor, part V: make and copy are sound. -/
import Derived.Test.YtcaomfbcchemnaaDoorEngT
import Derived.Laws.MakeOwn
import Derived.Laws.CopyRow
namespace Go.Proofs.YtcaomfbcchemnaaDoor
open Go.RowKit
set_option linter.unusedVariables false

section
variable {Y : Thy} {E : Eng Y} {o : Oper} {T : Fr Y} {h : Hp Y} {i : Nat} {k : Res Y → Prop}

theorem tagOf_spec {el : TypeId} {th : Y.Th} (h : tagOf E el = some th) : E.thOf el = some th ∧ E.el th = el := by
  unfold tagOf at h
  split at h
  · rename_i th' h1
    split at h
    · rename_i h2
      cases h
      exact ⟨h1, Nat.eq_of_beq_eq_true h2⟩
    · cases h
  · cases h
theorem flat_repl {α : Type} (zc : List α) : ∀ (c j : Nat), (List.replicate c zc).flatten[j]? = if j < c * zc.length then zc[j % zc.length]? else none := by
  intro c
  induction c with
  | zero => intro j; simp
  | succ c ih =>
    intro j
    rw [List.replicate_succ, List.flatten_cons]
    by_cases h : j < zc.length
    · rw [List.getElem?_append_left h, if_pos (by rw [Nat.add_mul]; omega), Nat.mod_eq_of_lt h]
    · rw [List.getElem?_append_right (by omega), ih]
      by_cases h2 : j < (c + 1) * zc.length
      · rw [if_pos h2, if_pos (by rw [Nat.add_mul] at h2; omega)]
        conv => rhs; rw [show j = j - zc.length + zc.length by omega, Nat.add_mod_right]
      · rw [if_neg h2, if_neg (by rw [Nat.add_mul] at h2; omega)]
theorem flat_repl_len {α : Type} (zc : List α) (c : Nat) : (List.replicate c zc).flatten.length = c * zc.length := by simp

theorem smake_ok (hE : EngOk E) {t : TypeId} {x y : Operand} (ho : o.op = .makeSlice t x y) (hk : smake E t (ev T x) (ev T y) i k) : ∃ r, k r ∧ OpTri E o T h i r := by
  have mx : x ∈ o.op.operands.toList := by simp [ho, Op.operands]
  have my : y ∈ o.op.operands.toList := by simp [ho, Op.operands]
  unfold smake at hk
  split at hk
  · rename_i el _ _ _ l kd n m kd' c ht hX hY
    split at hk
    · rename_i ti hel
      obtain ⟨hund, _⟩ := hE.ty _ _ ht
      obtain ⟨_, info, hi1, hi2, hi3, hi4⟩ := hE.ty _ _ hel
      have run : ∀ (σ : Pl) (g : GH) (w : World) (ρ : Operand → Value), 0 ≤ n → n ≤ c → (ti.bytes : Int) * c ≤ 281474976710656 → 0 < ti.bytes → Den E σ g (ev T x) (ρ x) → Den E σ g (ev T y) (ρ y) →
          (execOp ρ o).run E.P w = .ok (.value (.slice (some ⟨w.heap.size, 0, none⟩) n.toNat c.toNat)) (w.alloc (.cells (madeCells ti.zero.cells (c.toNat * ti.size)) el)) := by
        intro σ g w ρ h0 h1 h2 h3 d1 d2
        rw [hX] at d1; rw [hY] at d2
        generalize hv1 : ρ x = v1 at d1; generalize hv2 : ρ y = v2 at d2
        cases d1; cases d2
        have hc : c ≤ 9223372036854775807 := by
          have : (1 : Int) * c ≤ ti.bytes * c := Int.mul_le_mul_of_nonneg_right (by omega) (by omega)
          omega
        have := run_make (P := E.P) w t el info ti.zero hund hi1 hi4 kd kd' n c h0 h1 (by rw [hi3]; exact h2) hc
        rw [hi2] at this
        unfold execOp
        simp only [ho, hv1, hv2, Sem.run_bind, this, Result.andThen_ok, Sem.run_pure]
      have bound : 0 < ti.bytes → 0 ≤ n → n ≤ c → (ti.bytes : Int) * c ≤ 281474976710656 → c.toNat ≤ maxLen := by
        intro h3 h0 h1 h2
        have : (1 : Int) * c ≤ ti.bytes * c := Int.mul_le_mul_of_nonneg_right (by omega) (by omega)
        unfold maxLen; omega
      obtain ⟨hz1, hz2⟩ := ofVal_cells (Y := Y) (E := E) ti.zero
      -- the cells of the new row
      have cell : ∀ (σ : Pl) (g : GH) (cc j : Nat) (sv : SV Y), (ofVal ti.zero : SV Y).cells.length = ti.size → 0 < ti.size → j < cc * ti.size → (ofVal ti.zero : SV Y).cells[j % ti.size]? = some sv → ∃ v, (madeCells ti.zero.cells (cc * ti.size))[j]? = some v ∧ Den E σ g sv v := by
        intro σ g cc j sv hl hp hj hsv
        obtain ⟨u, hu, hd⟩ := hz2 σ g _ _ hsv
        refine ⟨u, ?_, hd⟩
        have hs : ti.zero.cells.size = ti.size := by rw [← hz1]; exact hl
        unfold madeCells
        rw [Array.getElem?_map, Array.getElem?_range]
        rw [if_pos hj]
        simp only [Option.map_some, hs]
        rw [Array.getElem!_eq_getD, Array.getD_eq_getD_getElem?, hu]; rfl
      split at hk
      · rename_i hb hl
        simp only [Bool.and_eq_true] at hb
        have hb1 := blt_lt hb.1.1
        have hb2 := blt_lt hb.1.2
        have hb3 := Nat.eq_of_beq_eq_true hb.2
        obtain ⟨⟨h0, h1, h2⟩, hk⟩ := need_of hk
        refine tri_new (by intro es e; cases e) (fun σ g w ρ hx => ?_) hk
        refine ⟨_, el, _, run σ g w ρ h0 h1 h2 hb1 (hx x mx) (hx y my), ?_, ?_, ?_, ?_⟩
        · exact tagOf_ok
        · simp only [Blk.cells, flat_repl_len, size_madeCells, hb3]; exact Nat.le_refl _
        · intro j sv hj
          simp only [Blk.cells] at hj
          rw [flat_repl, hb3] at hj
          split at hj
          · exact cell σ g _ j sv hb3 hb2 ‹_› hj
          · cases hj
        · intro σ' hσ
          rw [size_madeCells] at hσ
          have := Den.sl (E := E) (g := g) (σ := σ') (b := i) (off := 0) (len := n.toNat) (w := ti.size) (c := c.toNat) (cap := some c.toNat) hσ (by rw [Nat.zero_add]; exact Nat.le_refl _) (by omega) (bound hb1 h0 h1 h2) (by intro m e; cases e; rfl)
          simpa using this
      · rename_i hb hl
        split at hk
        · rename_i th htg
          split at hk
          · rename_i z hdec
            simp only [Bool.and_eq_true] at hb
            have hb1 := blt_lt hb.1.1
            have hb2 := blt_lt hb.1.2
            have hb3 := Nat.eq_of_beq_eq_true hb.2
            obtain ⟨h0, h1, h2, hk⟩ := hk
            obtain ⟨hd1, hd2⟩ := hE.dec _ _ _ hdec
            have hw : E.w th = ti.size := by omega
            refine tri_new (by intro es e; cases e) (fun σ g w ρ hx => ?_) hk
            have hfl : (Blk.rows th (List.replicate c.toNat z) 0).cells E = (List.replicate c.toNat (E.enc th z)).flatten := by
              simp only [Blk.cells, List.flatMap_def, List.map_replicate]
            refine ⟨_, el, _, run σ g w ρ h0 h1 h2 hb1 (hx x mx) (hx y my), (tagOf_spec htg).2.symm, ?_, ?_, ?_⟩
            · rw [hfl, flat_repl_len, size_madeCells, hE.enc, hw]; exact Nat.le_refl _
            · intro j sv hj
              rw [hfl, flat_repl, hE.enc, hw] at hj
              split at hj
              · rename_i hjl
                have hm : j % ti.size < ti.size := Nat.mod_lt _ hb2
                obtain ⟨s0, hs0⟩ : ∃ s0, (ofVal ti.zero : SV Y).cells[j % ti.size]? = some s0 := ⟨_, List.getElem?_eq_getElem (by omega)⟩
                obtain ⟨v, hv, hd⟩ := cell σ g _ j s0 hb3 hb2 hjl hs0
                exact ⟨v, hv, hd2 σ g _ _ _ _ hs0 hj hd⟩
              · cases hj
            · intro σ' hσ
              rw [size_madeCells] at hσ
              have := Den.sl (E := E) (g := g) (σ := σ') (b := i) (off := 0) (len := n.toNat) (w := ti.size) (c := c.toNat) (cap := some c.toNat) hσ (by rw [Nat.zero_add]; exact Nat.le_refl _) (by omega) (bound hb1 h0 h1 h2) (by intro m e; cases e; rfl)
              simpa using this
          · exact hk.elim
        · exact hk.elim
      · exact hk.elim
    · exact hk.elim
  · exact hk.elim

/-- copy: all is read before anything is written -/
theorem run_copy_gen {P : Program} (w : World) (dT sT ty elem : TypeId) (info : TypeInfo) (g' o' dLen dCap : Nat) (base : Option Addr) (sLen sCap : Nat) (cur : Array Value) (t : TypeId) (cs : List Value)
    (hu : P.underlying dT = some (.slice elem)) (hs : P.info? elem = some info) (hg : w.heap[g']? = some (.cells cur t (0, 0))) (hn : cs.length = Nat.min sLen dLen * info.size) (hb : base = none → cs = [])
    (hsrc : ∀ a, base = some a → ∀ j v, cs[j]? = some v → w.cell? (a.add j) = some v) (hfit : o' + cs.length ≤ cur.size) (h1 : ∀ v ∈ cs, v.oneCell' = true) :
    (Builtin.copy_ #[dT, sT] ty #[.slice (some ⟨g', o', none⟩) dLen dCap, .slice base sLen sCap]).run P w =
      .ok (goInt (Nat.min sLen dLen)) (w.setRow g' (cur.toList.take o' ++ cs ++ cur.toList.drop (o' + cs.length)).toArray) := by
  have hst := run_storeCells_at P g' o' t cs 0 cur w hg (by simpa using hfit) h1
  cases base with
  | none =>
    have := hb rfl
    subst this
    simp [Builtin.copy_, run_underlying hu, Builtin.lenOf, Builtin.firstCells, sizeOf, typeInfo, hs] at hst ⊢
    simp [hst]
  | some a =>
    have hl := run_loadCells_list (P := P) w a cs (hsrc a rfl)
    simp [Builtin.copy_, run_underlying hu, Builtin.lenOf, Builtin.firstCells, sizeOf, typeInfo, hs, ← hn, hl, hst]

/-- what is known of the cells of a slice -/
theorem rawOf_ok {x : SV Y} {w0 : Nat} {cs : List (SV Y)} {rd : List Nat} (hr : rawOf h w0 x = some (cs, rd)) {hh : Hp Y} {σ : Pl} {g : GH} {w : World} {B : Nat} {v : Value} (hrd : ∀ b ∈ rd, hh b = h b) (hI : Inv E B σ hh g w) (hd : Den E σ g x v) :
    ∃ (base : Option Addr) (n c : Nat) (us : List Value), v = .slice base n c ∧ us.length = n * w0 ∧ cs.length = n * w0 ∧ (base = none → n = 0) ∧ (∀ a, base = some a → ∀ (j : Nat) u, us[j]? = some u → w.cell? (a.add j) = some u) ∧
      ∀ (j : Nat) sv u, cs[j]? = some sv → us[j]? = some u → Den E σ g sv u := by
  unfold rawOf at hr
  split at hr
  · cases hr; cases hd
    exact ⟨none, 0, 0, [], rfl, by simp, by simp, fun _ => rfl, (fun a e => by cases e), fun j sv u hj => by simp at hj⟩
  · rename_i b off len w' cap
    split at hr
    · rename_i cs0 fz tg hw hb
      obtain rfl := Nat.eq_of_beq_eq_true hw
      split at hr
      · rename_i hle
        rw [Nat.ble_eq] at hle
        cases hr
        obtain ⟨r, z, c, rfl, hσ, hz, hl, hm, _⟩ := den_sl hd
        obtain ⟨r', z', hσ', hbo⟩ := hI.blk b _ ((hrd b (by simp)).trans hb)
        rw [hσ] at hσ'; cases hσ'
        obtain ⟨u, hu1, hu2⟩ := blk_cell (by intro es e; cases e) hbo
        simp only [Blk.cells] at hu1 hu2
        have e : (off + len) * w0 = off * w0 + len * w0 := Nat.add_mul _ _ _
        refine ⟨_, len, c, (List.range (len * w0)).map fun j => u (off * w0 + j), rfl, by simp, by simp; omega, (fun e => by cases e), ?_, ?_⟩
        · intro a ea j uu hj
          cases ea
          rw [List.getElem?_map] at hj
          obtain ⟨j', hj', rfl⟩ := Option.map_eq_some_iff.1 hj
          obtain ⟨hlt, rfl⟩ : j < len * w0 ∧ j = j' := by
            obtain ⟨h1, h2⟩ := List.getElem?_eq_some_iff.1 hj'
            simp at h1 h2
            exact ⟨h1, h2⟩
          rw [add_at]
          exact hu1 _ (by omega)
        · intro j sv uu hj huu
          rw [List.getElem?_map] at huu
          obtain ⟨j', hj', rfl⟩ := Option.map_eq_some_iff.1 huu
          obtain ⟨hlt, rfl⟩ : j < len * w0 ∧ j = j' := by
            obtain ⟨h1, h2⟩ := List.getElem?_eq_some_iff.1 hj'
            simp at h1 h2
            exact ⟨h1, h2⟩
          rw [List.getElem?_take, if_pos hlt, List.getElem?_drop] at hj
          exact hu2 _ _ hj
      · cases hr
    · cases hr
  · cases hr

theorem scopy_ok (hE : EngOk E) {c : Call} (hc : c.callee = .builtin .copy) (ho : o.op = .call c) {t : TypeId} {ts : List TypeId} {x y : Operand} (ha : c.args.toList = [x, y]) (hat : c.argTypes.toList = t :: ts) (hk : scopy E t (ev T x) (ev T y) h k) : ∃ r, k r ∧ OpTri E o T h i r := by
  have mx : x ∈ o.op.operands.toList := by
    have : x ∈ c.args.toList := by rw [ha]; simp
    simp [ho, Op.operands, Call.operands, hc]; simpa using this
  have my : y ∈ o.op.operands.toList := by
    have : y ∈ c.args.toList := by rw [ha]; simp
    simp [ho, Op.operands, Call.operands, hc]; simpa using this
  have haa : c.args = #[x, y] := by rw [← Array.toArray_toList (xs := c.args), ha]
  have hta : c.argTypes[0]? = some t := by rw [← Array.getElem?_toList, hat]; rfl
  unfold scopy at hk
  split at hk
  · rename_i el _ _ _ b off len w0 cap ht hX
    obtain ⟨hund, _⟩ := hE.ty _ _ ht
    have run : ∀ (w w' : World) (ρ : Operand → Value) (u : Value), (Builtin.copy_ #[t, t] o.type #[ρ x, ρ y]).run E.P w = .ok u w' → (execOp ρ o).run E.P w = .ok (.value u) w' := by
      intro w w' ρ u hl
      have e : Builtin.copy_ c.argTypes o.type #[ρ x, ρ y] = Builtin.copy_ #[t, t] o.type #[ρ x, ρ y] := by
        unfold Builtin.copy_
        rw [hta]; rfl
      unfold execOp
      simp only [ho, resolve, hc, Sem.run_bind, Sem.run_pure, Result.andThen_ok, invoke, builtin, haa]
      rw [show (#[x, y].map ρ) = #[ρ x, ρ y] by simp, e, hl]; rfl
    split at hk
    · rename_i ti th l fz hel hb
      obtain ⟨_, info, hi1, hi2, hi3, hi4⟩ := hE.ty _ _ hel
      split at hk
      · rename_i hw
        simp only [Bool.and_eq_true] at hw
        obtain rfl := Nat.eq_of_beq_eq_true hw.1
        have hsz := Nat.eq_of_beq_eq_true hw.2
        obtain ⟨lit, l2, rd2, hk, hcont⟩ := contK_ok hE hk
        obtain ⟨⟨hfz, hle⟩, hk⟩ := need_of hk
        refine ⟨_, hk, fun b' hb' => by (simp [change] at hb'; subst hb'; rw [hb]; simp), ?_⟩
        intro B σ g w ρ hh hrd hI hB hfree hx
        have hrd' : ∀ b' ∈ b :: rd2, hh b' = h b' := hrd
        have hb' := (hrd' b (by simp)).trans hb
        obtain ⟨base2, c2, us, C⟩ := hcont hh σ g w B (ρ y) (fun b' hb' => hrd' b' (by simp [hb'])) hI (hx y my)
        have hd := hx x mx
        rw [hX] at hd
        obtain ⟨r, z, c1, e1, hσ, hz, hlc, hmx, _⟩ := den_sl hd
        obtain ⟨r', z', hσ', hbo⟩ := hI.blk b _ hb'
        rw [hσ] at hσ'; cases hσ'
        obtain ⟨arr, e, harr, hasz, hcl, hcd, hele⟩ := (BlkOk.cells_iff (by intro es e; cases e)).1 hbo
        simp only [Blk.cells] at hcl hcd
        rw [flat_len hE] at hcl
        -- what goes over
        have hmin : min l2.length len ≤ l2.length := Nat.min_le_left _ _
        have hmin2 : min l2.length len ≤ len := Nat.min_le_right _ _
        generalize hn : min l2.length len = n at *
        have hn' : Nat.min l2.length len = n := hn
        have hnw : n * E.w th ≤ l2.length * E.w th := Nat.mul_le_mul_right _ hmin
        have hlen := C.len
        have hcs : (us.take (n * E.w th)).length = n * E.w th := by rw [List.length_take]; omega
        have hfit : (off + n) * E.w th ≤ l.length * E.w th := Nat.mul_le_mul_right _ (by omega)
        rw [Nat.add_mul] at hfit
        have hone : ∀ u ∈ us.take (n * E.w th), u.oneCell' = true := by
          intro u hu
          obtain ⟨j, hj, rfl⟩ := List.getElem_of_mem (List.mem_of_mem_take hu)
          have hj' : j < (l2.flatMap (E.enc th)).length := by rw [flat_len hE]; omega
          exact den_leaf (flat_leaf hE th l2 (List.getElem?_eq_getElem hj')) (C.den j _ _ (List.getElem?_eq_getElem hj') (List.getElem?_eq_getElem hj))
        have hrun := run_copy_gen (P := E.P) w t t o.type el info r (off * E.w th) len c1 base2 l2.length c2 arr e (us.take (n * E.w th)) hund hi1 harr (by rw [hcs, hn', hi2, hsz]) (fun eb => by
            have h0 := C.nil eb
            have h1 := C.le
            have : n = 0 := by omega
            rw [this]; simp) (fun a ea j v hj => by
            rw [List.getElem?_take] at hj
            split at hj
            · obtain ⟨r2, o2, hb2⟩ := C.some (by
                rcases Nat.eq_zero_or_pos l2.length with e0 | e0
                · have hlt := (List.getElem?_eq_some_iff.1 hj).1
                  rw [hlen, e0] at hlt; simp at hlt
                · exact e0)
              rw [ea] at hb2; cases hb2
              rw [add_at]; exact C.cell r2 o2 ea j v hj
            · cases hj) (by rw [hcs]; omega) hone
        have hsp := splice_get arr.toList (us.take (n * E.w th)) (off * E.w th) (by rw [hcs]; simp; omega)
        have hll : (l.take off ++ l2.take len ++ l.drop (off + n)).length = l.length := by
          simp only [List.length_append, List.length_take, List.length_drop]
          rw [Nat.min_comm] at hn
          omega
        have hl2n : (l2.take len).length = n := by rw [List.length_take, Nat.min_comm]; exact hn
        obtain ⟨hI', hS⟩ := inv_set (i := i) hI (blk' := .rows th (l.take off ++ l2.take len ++ l.drop (off + n)) fz) hb' hσ (arr' := (arr.toList.take (off * E.w th) ++ us.take (n * E.w th) ++ arr.toList.drop (off * E.w th + (us.take (n * E.w th)).length)).toArray) harr (by simp; omega) hasz hele (by intro es e; cases e) rfl
          (fun m hm => by
            simp only [Blk.fzc] at hm
            have := Nat.mul_le_mul_right (E.w th) hfz
            rw [List.getElem?_toArray, hsp, if_pos (by omega)]; simp) (by simp only [Blk.cells]; rw [flat_len hE, hll]; exact hcl)
          (fun m sv hm => by
            simp only [Blk.cells] at hm
            obtain ⟨q, p, y', rfl, hp, hq, hs⟩ := flat_inv hE th _ hm
            rw [List.getElem?_toArray, hsp, hcs]
            have old : l[q]? = some y' → ∃ v, arr.toList[q * E.w th + p]? = some v ∧ Den E σ g sv v := by
              intro hq
              obtain ⟨v, hv, hd⟩ := hcd (q * E.w th + p) sv (by rw [flat_get hE th l q y' hq p hp]; exact hs)
              exact ⟨v, by simpa using hv, hd⟩
            have hqw : q * E.w th + p < (q + 1) * E.w th := by rw [Nat.add_mul]; omega
            by_cases q1 : q < off
            · have : (q + 1) * E.w th ≤ off * E.w th := Nat.mul_le_mul_right _ q1
              rw [if_pos (by omega)]
              rw [List.append_assoc, List.getElem?_append_left (by rw [List.length_take]; omega), List.getElem?_take, if_pos q1] at hq
              exact old hq
            · have g1 : off * E.w th ≤ q * E.w th := Nat.mul_le_mul_right _ (by omega)
              rw [if_neg (by omega)]
              rw [List.append_assoc, List.getElem?_append_right (by rw [List.length_take]; omega)] at hq
              have ht : (l.take off).length = off := by rw [List.length_take]; omega
              rw [ht] at hq
              by_cases q2 : q < off + n
              · have g2 : (q + 1) * E.w th ≤ (off + n) * E.w th := Nat.mul_le_mul_right _ q2
                rw [Nat.add_mul off n] at g2
                rw [if_pos (by omega)]
                rw [List.getElem?_append_left (by omega), List.getElem?_take] at hq
                split at hq
                · have g3 : q * E.w th + p - off * E.w th = (q - off) * E.w th + p := by rw [Nat.sub_mul]; omega
                  have hlt : (q - off) * E.w th + p < us.length := by
                    have g4 : (q - off + 1) * E.w th ≤ l2.length * E.w th := Nat.mul_le_mul_right _ (List.getElem?_eq_some_iff.1 hq).1
                    rw [Nat.add_mul] at g4
                    omega
                  refine ⟨us[(q - off) * E.w th + p], ?_, C.den _ _ _ (by rw [flat_get hE th l2 _ y' hq p hp]; exact hs) (List.getElem?_eq_getElem hlt)⟩
                  rw [g3, List.getElem?_take, if_pos (by omega), List.getElem?_eq_getElem hlt]
                · cases hq
              · have g2 : (off + n) * E.w th ≤ q * E.w th := Nat.mul_le_mul_right _ (by omega)
                rw [Nat.add_mul] at g2
                rw [if_neg (by omega)]
                rw [List.getElem?_append_right (by omega), List.getElem?_drop, hl2n] at hq
                rw [show off + n + (q - off - n) = q by omega] at hq
                exact old hq)
        refine post_value (run w _ ρ _ (by rw [e1, C.v]; exact hrun)) ⟨σ, g, hS, by rw [patch_change]; exact hI', ?_⟩
        rw [hn']
        exact .int _ _ _
      · exact hk.elim
    · rename_i ti cs fz tg hel hb
      obtain ⟨_, info, hi1, hi2, hi3, hi4⟩ := hE.ty _ _ hel
      split at hk
      · rename_i c2 rd2 hw hraw
        split at hk
        · rename_i hchk
          simp only [Bool.and_eq_true, Nat.ble_eq] at hw hchk
          have hsz := Nat.eq_of_beq_eq_true hw.1
          have hpos := blt_lt hw.2
          obtain ⟨⟨hfz, hfits⟩, hlv⟩ := hchk
          refine ⟨_, hk, fun b' hb' => by (simp [change] at hb'; subst hb'; rw [hb]; simp), ?_⟩
          intro B σ g w ρ hh hrd hI hB hfree hx
          have hrd' : ∀ b' ∈ b :: rd2, hh b' = h b' := hrd
          have hb' := (hrd' b (by simp)).trans hb
          obtain ⟨base2, n2, cc2, us, ev2, hul, hcl2, hnil, hcell, hden⟩ := rawOf_ok hraw (fun b' hb' => hrd' b' (by simp [hb'])) hI (hx y my)
          have hd := hx x mx
          rw [hX] at hd
          obtain ⟨r, z, c1, e1, hσ, hz, hlc, hmx, _⟩ := den_sl hd
          obtain ⟨r', z', hσ', hbo⟩ := hI.blk b _ hb'
          rw [hσ] at hσ'; cases hσ'
          obtain ⟨arr, e, harr, hasz, hcl, hcd, hele⟩ := (BlkOk.cells_iff (by intro es e; cases e)).1 hbo
          simp only [Blk.cells] at hcl hcd
          have hmin : min n2 len ≤ n2 := Nat.min_le_left _ _
          have hmin2 : min n2 len ≤ len := Nat.min_le_right _ _
          generalize hn : min n2 len = n at *
          have hn' : Nat.min n2 len = n := hn
          have g1 : n * w0 ≤ n2 * w0 := Nat.mul_le_mul_right _ hmin
          have g2 : n * w0 ≤ len * w0 := Nat.mul_le_mul_right _ hmin2
          have hcs : (us.take (n * w0)).length = n * w0 := by rw [List.length_take]; omega
          have hcs2 : (c2.take (len * w0)).length = n * w0 := by
            rw [List.length_take, hcl2, ← hn, ← Nat.mul_min_mul_right, Nat.min_comm]
          rw [Nat.add_mul] at hfits
          have hone : ∀ u ∈ us.take (n * w0), u.oneCell' = true := by
            intro u hu
            obtain ⟨j, hj, rfl⟩ := List.getElem_of_mem (List.mem_of_mem_take hu)
            have hj' : j < c2.length := by omega
            exact den_leaf (leaves_mem hlv (List.getElem?_eq_getElem hj')) (hden j _ _ (List.getElem?_eq_getElem hj') (List.getElem?_eq_getElem hj))
          have hrun := run_copy_gen (P := E.P) w t t o.type el info r (off * w0) len c1 base2 n2 cc2 arr e (us.take (n * w0)) hund hi1 harr (by rw [hcs, hn', hi2, hsz]) (fun eb => by
              have := hnil eb
              have : n = 0 := by omega
              rw [this]; simp) (fun a ea j v hj => by
              rw [List.getElem?_take] at hj
              split at hj
              · exact hcell a ea j v hj
              · cases hj) (by rw [hcs]; omega) hone
          have hspa := splice_get arr.toList (us.take (n * w0)) (off * w0) (by rw [hcs]; simp; omega)
          have hspc := splice_get cs (c2.take (len * w0)) (off * w0) (by rw [hcs2]; omega)
          obtain ⟨hI', hS⟩ := inv_set (i := i) hI (blk' := .raw (splice cs (off * w0) (c2.take (len * w0))) fz tg) hb' hσ (arr' := (arr.toList.take (off * w0) ++ us.take (n * w0) ++ arr.toList.drop (off * w0 + (us.take (n * w0)).length)).toArray) harr (by simp; omega) hasz (by first | exact hele | (cases tg <;> exact hele)) (by intro es e; cases e) rfl
            (fun m hm => by
              simp only [Blk.fzc] at hm
              rw [List.getElem?_toArray, hspa, if_pos (by omega)]; simp) (by simp only [Blk.cells, splice, List.length_append, List.length_drop]; rw [List.length_take, hcs2]; omega)
            (fun m sv hm => by
              simp only [Blk.cells, splice] at hm
              rw [hspc, hcs2] at hm
              rw [List.getElem?_toArray, hspa, hcs]
              by_cases q1 : m < off * w0
              · rw [if_pos q1] at hm ⊢
                obtain ⟨v, hv, hd⟩ := hcd m sv hm
                exact ⟨v, by simpa using hv, hd⟩
              · rw [if_neg q1] at hm ⊢
                by_cases q2 : m < off * w0 + n * w0
                · rw [if_pos q2] at hm ⊢
                  rw [List.getElem?_take] at hm
                  split at hm
                  · have hlt : m - off * w0 < us.length := by omega
                    exact ⟨us[m - off * w0], by rw [List.getElem?_take, if_pos (by omega), List.getElem?_eq_getElem hlt], hden _ _ _ hm (List.getElem?_eq_getElem hlt)⟩
                  · cases hm
                · rw [if_neg q2] at hm ⊢
                  obtain ⟨v, hv, hd⟩ := hcd m sv hm
                  exact ⟨v, by simpa using hv, hd⟩)
          refine post_value (run w _ ρ _ (by rw [e1, ev2]; exact hrun)) ⟨σ, g, hS, by rw [patch_change]; exact hI', ?_⟩
          rw [hn']
          have : min (c2.length / w0) len = n := by rw [hcl2, Nat.mul_div_cancel _ hpos]; exact hn
          show Den E σ g (.int true .i64 (min (c2.length / w0) len : Nat)) _
          rw [this]
          exact .int _ _ _
        · exact hk.elim
      · exact hk.elim
    · exact hk.elim
  · exact hk.elim
end
end Go.Proofs.YtcaomfbcchemnaaDoor
