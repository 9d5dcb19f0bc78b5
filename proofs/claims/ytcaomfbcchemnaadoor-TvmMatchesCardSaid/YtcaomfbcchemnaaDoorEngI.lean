/- A symbolic executor, part I: stores, composites. -/
import Derived.Test.YtcaomfbcchemnaaDoorEngH
namespace Go.Proofs.YtcaomfbcchemnaaDoor
open Go.RowKit
set_option linter.unusedVariables false

section
variable {Y : Thy} {E : Eng Y} {o : Oper} {T : Fr Y} {h : Hp Y} {i : Nat} {k : Res Y → Prop} {call : Nat → List (SV Y) → Hp Y → Nat → (Res Y → Prop) → Prop}

theorem flat_inv (hE : EngOk E) (th : Y.Th) (l : List (Y.dom th)) {m : Nat} {s : SV Y} (h : (l.flatMap (E.enc th))[m]? = some s) : ∃ q p x, m = q * E.w th + p ∧ p < E.w th ∧ l[q]? = some x ∧ (E.enc th x)[p]? = some s := by
  have hlt : m < l.length * E.w th := by rw [← flat_len hE]; exact (List.getElem?_eq_some_iff.1 h).1
  have hpos := hE.pos th
  have hm : m = m / E.w th * E.w th + m % E.w th := by rw [Nat.mul_comm]; exact (Nat.div_add_mod _ _).symm
  have hq : m / E.w th < l.length := (Nat.div_lt_iff_lt_mul hpos).2 hlt
  have hp : m % E.w th < E.w th := Nat.mod_lt _ hpos
  have hx := List.getElem?_eq_getElem hq
  refine ⟨_, _, _, hm, hp, hx, ?_⟩
  rw [← flat_get hE th l _ _ hx _ hp, ← hm]; exact h

/-- a block changed -/
theorem inv_set {B : Nat} {σ : Pl} {g : GH} {w : World} {hh : Hp Y} (hI : Inv E B σ hh g w) {b r z : Nat} {blk blk' : Blk Y} (hb : hh b = some blk) (hσ : σ b = some (r, z)) {arr arr' : Array Value} {e : TypeId} (ha : w.heap[r]? = some (.cells arr e (0, 0))) (hs : arr'.size = arr.size)
    (hz : arr.size = z) (hel : ElOk E e blk') (hm : ∀ es, blk' ≠ .map es) (hf : blk'.fzc E = blk.fzc E) (hkeep : ∀ n, n < blk.fzc E → arr'[n]? = arr[n]?) (hl : (blk'.cells E).length ≤ z) (hd : ∀ (j : Nat) sv, (blk'.cells E)[j]? = some sv → ∃ v, arr'[j]? = some v ∧ Den E σ g sv v) :
    Inv E B σ (upd hh b (some blk')) g (w.setRow r arr') ∧ Stp i 0 [b] σ g w σ g (w.setRow r arr') := by
  have hother : ∀ q, q ≠ r → (w.setRow r arr').heap[q]? = w.heap[q]? := fun q hq => setRow_other w r q arr' hq
  have hne : ∀ b' r' z', hh b' ≠ none → σ b' = some (r', z') → b' ≠ b → r' ≠ r := by
    intro b' r' z' h1 h2 h3 e
    subst e
    exact h3 (hI.inj _ _ _ _ _ h1 (by rw [hb]; simp) h2 hσ)
  refine ⟨⟨?_, ?_, ?_, ?_, ?_, ?_, ?_, hI.glob⟩, ⟨.refl _, fun b p h => .inl h, .refl _, fun _ _ _ h => .inl h, fun _ _ h => .inl h, fun q hq hq2 => hother q fun e => hq2 b (by simp) z (e ▸ hσ), by simp, rfl, rfl, rfl, fun b' r' z' h1 h2 => by rw [h1] at h2; cases h2⟩⟩
  · intro q n v hc
    have hc' := hI.gc _ _ _ hc
    by_cases e : q = r
    · subst e
      rw [cell_setRow_same w q n arr arr' _ _ ha, hkeep n (hI.fz _ _ _ _ _ _ hb hσ hc)]
      simpa [World.cell?, ha] using hc'
    · rw [cell_setRow_other w r arr' _ (by simpa using e)]; exact hc'
  · intro q es hc
    obtain ⟨c, h⟩ := hI.gm _ _ hc
    have : q ≠ r := by rintro rfl; rw [ha] at h; cases h
    exact ⟨c, (hother q this).trans h⟩
  · intro b' x hx
    rw [upd_apply] at hx
    by_cases e1 : b' = b
    · rw [if_pos e1] at hx
      obtain rfl := Option.some.inj hx
      subst e1
      exact ⟨r, z, hσ, (BlkOk.cells_iff hm).2 ⟨arr', e, setRow_heap w r arr arr' _ _ ha, by omega, hl, hd, hel⟩⟩
    · rw [if_neg e1] at hx
      obtain ⟨r', z', h1, h2⟩ := hI.blk _ _ hx
      exact ⟨r', z', h1, h2.mono (.refl _) (.refl _) (hother _ (hne _ _ _ (by rw [hx]; simp) h1 e1))⟩
  · intro b1 b2 r' z1 z2 h1 h2 k1 k2
    rw [upd_apply] at h1 h2
    have q1 : hh b1 ≠ none := by by_cases e : b1 = b; · rw [e, hb]; simp
                                 · rw [if_neg e] at h1; exact h1
    have q2 : hh b2 ≠ none := by by_cases e : b2 = b; · rw [e, hb]; simp
                                 · rw [if_neg e] at h2; exact h2
    exact hI.inj _ _ _ _ _ q1 q2 k1 k2
  · intro b' r' z' h1
    have := hI.base _ _ _ h1
    exact ⟨this.1, by simpa using this.2⟩
  · intro b' x r' z' n v hx h1 hc
    rw [upd_apply] at hx
    by_cases e1 : b' = b
    · rw [if_pos e1] at hx
      obtain rfl := Option.some.inj hx
      subst e1
      rw [hf]; exact hI.fz _ _ _ _ _ _ hb h1 hc
    · rw [if_neg e1] at hx; exact hI.fz _ _ _ _ _ _ hx h1 hc
  · intro b' x r' z' hx h1
    rw [upd_apply] at hx
    by_cases e1 : b' = b
    · subst e1; exact hI.fm _ _ _ _ hb h1
    · rw [if_neg e1] at hx; exact hI.fm _ _ _ _ hx h1

theorem splice_get {α : Type} (cs ss : List α) (off : Nat) (hle : off + ss.length ≤ cs.length) (j : Nat) : (cs.take off ++ ss ++ cs.drop (off + ss.length))[j]? = if j < off then cs[j]? else if j < off + ss.length then ss[j - off]? else cs[j]? := by
  by_cases h1 : j < off
  · rw [if_pos h1, List.append_assoc, List.getElem?_append_left (by simp; omega), List.getElem?_take, if_pos h1]
  · rw [if_neg h1, List.append_assoc, List.getElem?_append_right (by simp; omega)]
    have hlt : (List.take off cs).length = off := by simp; omega
    rw [hlt]
    by_cases h2 : j < off + ss.length
    · rw [if_pos h2, List.getElem?_append_left (by omega)]
    · rw [if_neg h2, List.getElem?_append_right (by omega), List.getElem?_drop]
      congr 1; omega

theorem run_store_at (hE : EngOk E) {t : TypeId} {ti : TyI} (ht : E.ty t = some ti) {x v : Operand} (ho : o.op = .store t x v) (w : World) (ρ : Operand → Value) (r off : Nat) (arr : Array Value) (e : TypeId) (hx : ρ x = .pointer (some ⟨r, off, none⟩)) (ha : w.heap[r]? = some (.cells arr e (0, 0)))
    (hs : (ρ v).cells.size = ti.size) (hf : off + (ρ v).cells.size ≤ arr.size) (h1 : ∀ u ∈ (ρ v).cells.toList, u.oneCell' = true) :
    (execOp ρ o).run E.P w = .ok .skip (w.setRow r (arr.toList.take off ++ (ρ v).cells.toList ++ arr.toList.drop (off + (ρ v).cells.toList.length)).toArray) := by
  have := run_storeCells_at (P := E.P) r off e (ρ v).cells.toList 0 arr w ha (by simpa using hf) h1
  unfold execOp
  simp only [ho, Instr.storeAt, hx, Sem.run_bind, Instr.sureAddr, Sem.run_pure, Result.andThen_ok, storeVar, run_sizeOf_ty hE ht, hs]
  simp only [ne_eq, not_true_eq_false, if_false]
  simp only [Sem.run_bind, Sem.run_pure, Result.andThen_ok, this, Nat.add_zero]

theorem sstore_ok (hE : EngOk E) {t : TypeId} {x v : Operand} (ho : o.op = .store t x v) (hk : sstore E t (ev T x) (ev T v) h k) : ∃ r, k r ∧ OpTri E o T h i r := by
  have mx : x ∈ o.op.operands.toList := by simp [ho, Op.operands]
  have mv : v ∈ o.op.operands.toList := by simp [ho, Op.operands]
  unfold sstore at hk
  split at hk
  · exact hk.elim
  · rename_i ti ht
    split at hk
    · exact hk.elim
    · rename_i hlv
      simp only [Bool.and_eq_true, decide_eq_true_eq] at hlv
      obtain ⟨hlen, hlv⟩ := hlv
      split at hk
      · rename_i b off hX
        split at hk
        · rename_i cs fz tg hb
          split at hk
          · rename_i hle
            simp only [Bool.and_eq_true, Nat.ble_eq] at hle
            refine ⟨_, hk, fun b' hb' => by (simp [change] at hb'; subst hb'; rw [hb]; simp), ?_⟩
            intro B σ g w ρ hh hrd hI hB hfree hx
            have hb' : hh b = some (.raw cs fz tg) := (hrd b (by simp [Rd, change])).trans hb
            have h1 := hx x mx
            rw [hX] at h1
            generalize hv1 : ρ x = v1 at h1
            cases h1
            rename_i r z hσ
            obtain ⟨r', z', hσ', hbo⟩ := hI.blk b _ hb'
            rw [hσ] at hσ'; cases hσ'
            obtain ⟨arr, e, ha, hz, hcl, hcd, hel⟩ := (BlkOk.cells_iff (by intro es e; cases e)).1 hbo
            obtain ⟨hc1, hc2⟩ := den_cells (hx v mv) hlv
            have hcl' : cs.length ≤ arr.size := by rw [hz]; exact hcl
            have hone : ∀ u ∈ (ρ v).cells.toList, u.oneCell' = true := by
              intro u hu
              obtain ⟨j, hj, rfl⟩ := List.getElem_of_mem hu
              have hj' : j < (ev T v).cells.length := by rw [hc1]; simpa using hj
              obtain ⟨u', hu', hd'⟩ := hc2 j _ (List.getElem?_eq_getElem hj')
              have : (ρ v).cells.toList[j] = u' := by
                have hj2 : j < (ρ v).cells.size := by simpa using hj
                rw [Array.getElem?_eq_getElem hj2] at hu'
                simpa using Option.some.inj hu'
              rw [this]
              exact den_leaf (leaves_mem hlv (List.getElem?_eq_getElem hj')) hd'
            have hrun := run_store_at hE ht ho w ρ r off arr e hv1 ha (by rw [← hc1, hlen]) (by rw [← hc1]; omega) hone
            have hsp := splice_get cs (ev T v).cells off (by omega)
            have hsz : (ρ v).cells.toList.length = (ev T v).cells.length := by rw [hc1]; simp
            have hspa := splice_get arr.toList (ρ v).cells.toList off (by rw [hsz]; simp; omega)
            obtain ⟨hI', hS⟩ := inv_set (i := i) hI (blk' := .raw (splice cs off (ev T v).cells) fz tg) hb' hσ (arr' := (arr.toList.take off ++ (ρ v).cells.toList ++ arr.toList.drop (off + (ρ v).cells.toList.length)).toArray) ha (by simp; omega) hz (by first | exact hel | (cases tg <;> exact hel)) (by intro es e; cases e) rfl
              (fun n hn => by rw [List.getElem?_toArray, hspa, if_pos (by simp only [Blk.fzc] at hn; omega)]; simp) (by simp only [Blk.cells, splice, List.length_append, List.length_take, List.length_drop]; omega)
              (fun j sv hj => by
                simp only [Blk.cells, splice] at hj
                rw [hsp] at hj
                rw [List.getElem?_toArray, hspa, hsz]
                by_cases q1 : j < off
                · rw [if_pos q1] at hj ⊢
                  obtain ⟨u, hu, hd⟩ := hcd j sv hj
                  exact ⟨u, by simpa using hu, hd⟩
                · rw [if_neg q1] at hj ⊢
                  by_cases q2 : j < off + (ev T v).cells.length
                  · rw [if_pos q2] at hj ⊢
                    obtain ⟨u, hu, hd⟩ := hc2 _ _ hj
                    exact ⟨u, by simpa using hu, hd⟩
                  · rw [if_neg q2] at hj ⊢
                    obtain ⟨u, hu, hd⟩ := hcd j sv hj
                    exact ⟨u, by simpa using hu, hd⟩)
            refine post_skip hrun ⟨σ, g, hS, ?_, .unk _⟩
            rw [patch_change]; exact hI'
          · exact hk.elim
        · exact hk.elim
      · rename_i b j w' off hX
        split at hk
        · rename_i th l fz hb
          obtain ⟨hww, hk2⟩ := sameN_of hk
          clear hk
          subst hww
          obtain ⟨hfz, hk2⟩ := need_of hk2
          obtain ⟨hj, y, hy, hk⟩ := getK_of hk2
          split at hk
          · rename_i y' hle hdec
            rw [Nat.ble_eq, hE.enc] at hle
            refine ⟨_, hk, fun b' hb' => by (simp [change] at hb'; subst hb'; rw [hb]; simp), ?_⟩
            intro B σ g w ρ hh hrd hI hB hfree hx
            have hb' : hh b = some (.rows th l fz) := (hrd b (by simp [Rd, change])).trans hb
            have h1 := hx x mx
            rw [hX] at h1
            generalize hv1 : ρ x = v1 at h1
            cases h1
            rename_i r z hσ
            obtain ⟨r', z', hσ', hbo⟩ := hI.blk b _ hb'
            rw [hσ] at hσ'; cases hσ'
            obtain ⟨arr, e, ha, hz, hcl, hcd, hel⟩ := (BlkOk.cells_iff (by intro es e; cases e)).1 hbo
            simp only [Blk.cells] at hcl hcd
            rw [flat_len hE] at hcl
            obtain ⟨hc1, hc2⟩ := den_cells (hx v mv) hlv
            obtain ⟨hdl, hdd⟩ := hE.dec _ _ _ hdec
            have hjw : j * E.w th + E.w th ≤ l.length * E.w th := by
              have := Nat.mul_le_mul_right (E.w th) (show j + 1 ≤ l.length from hj)
              rwa [Nat.add_mul, Nat.one_mul] at this
            have hone : ∀ u ∈ (ρ v).cells.toList, u.oneCell' = true := by
              intro u hu
              obtain ⟨j, hj, rfl⟩ := List.getElem_of_mem hu
              have hj' : j < (ev T v).cells.length := by rw [hc1]; simpa using hj
              obtain ⟨u', hu', hd'⟩ := hc2 j _ (List.getElem?_eq_getElem hj')
              have : (ρ v).cells.toList[j] = u' := by
                have hj2 : j < (ρ v).cells.size := by simpa using hj
                rw [Array.getElem?_eq_getElem hj2] at hu'
                simpa using Option.some.inj hu'
              rw [this]
              exact den_leaf (leaves_mem hlv (List.getElem?_eq_getElem hj')) hd'
            have hsz : (ρ v).cells.toList.length = (ev T v).cells.length := by rw [hc1]; simp
            have hrun := run_store_at hE ht ho w ρ r (j * E.w th + off) arr e hv1 ha (by rw [← hc1, hlen]) (by rw [← hc1]; omega) hone
            have hsp := splice_get (E.enc th y) (ev T v).cells off (by rw [hE.enc]; omega)
            have hspa := splice_get arr.toList (ρ v).cells.toList (j * E.w th + off) (by rw [hsz]; simp; omega)
            obtain ⟨hI', hS⟩ := inv_set (i := i) hI (blk' := .rows th (l.set j y') fz) hb' hσ (arr' := (arr.toList.take (j * E.w th + off) ++ (ρ v).cells.toList ++ arr.toList.drop (j * E.w th + off + (ρ v).cells.toList.length)).toArray) ha (by simp; omega) hz (by first | exact hel | (cases tg <;> exact hel)) (by intro es e; cases e) rfl
              (fun n hn => by
                simp only [Blk.fzc] at hn
                have := Nat.mul_le_mul_right (E.w th) hfz
                rw [List.getElem?_toArray, hspa, if_pos (by omega)]; simp) (by simp only [Blk.cells]; rw [flat_len hE, List.length_set]; exact hcl)
              (fun m sv hm => by
                simp only [Blk.cells] at hm
                obtain ⟨q, p, x, rfl, hp, hq, hs⟩ := flat_inv hE th _ hm
                rw [List.getElem?_toArray, hspa, hsz]
                by_cases e1 : q = j
                · subst e1
                  rw [List.getElem?_set_self (by omega)] at hq
                  obtain rfl := Option.some.inj hq
                  have hin : (splice (E.enc th y) off (ev T v).cells)[p]? = some (splice (E.enc th y) off (ev T v).cells)[p] := List.getElem?_eq_getElem (by omega)
                  generalize (splice (E.enc th y) off (ev T v).cells)[p] = s0 at hin
                  have hkey : ∀ u, Den E σ g s0 u → Den E σ g sv u := fun u hu => hdd σ g p s0 sv u hin hs hu
                  simp only [splice] at hin
                  rw [hsp] at hin
                  have hold : ∀ s, (E.enc th y)[p]? = some s → ∃ u, arr.toList[q * E.w th + p]? = some u ∧ Den E σ g s u := by
                    intro s hs
                    obtain ⟨u, hu, hd⟩ := hcd (q * E.w th + p) s (by rw [flat_get hE th l q y hy p hp]; exact hs)
                    exact ⟨u, by simpa using hu, hd⟩
                  by_cases q1 : p < off
                  · rw [if_pos q1] at hin; rw [if_pos (by omega)]
                    obtain ⟨u, hu, hd⟩ := hold _ hin
                    exact ⟨u, hu, hkey u hd⟩
                  · rw [if_neg q1] at hin; rw [if_neg (by omega)]
                    by_cases q2 : p < off + (ev T v).cells.length
                    · rw [if_pos q2] at hin; rw [if_pos (by omega)]
                      obtain ⟨u, hu, hd⟩ := hc2 _ _ hin
                      refine ⟨u, ?_, hkey u hd⟩
                      rw [show q * E.w th + p - (q * E.w th + off) = p - off by omega]
                      simpa using hu
                    · rw [if_neg q2] at hin; rw [if_neg (by omega)]
                      obtain ⟨u, hu, hd⟩ := hold _ hin
                      exact ⟨u, hu, hkey u hd⟩
                · rw [List.getElem?_set_ne (fun e => e1 e.symm)] at hq
                  obtain ⟨u, hu, hd⟩ := hcd (q * E.w th + p) sv (by rw [flat_get hE th l q x hq p hp]; exact hs)
                  refine ⟨u, ?_, hd⟩
                  have hu' : arr.toList[q * E.w th + p]? = some u := by simpa using hu
                  rcases Nat.lt_or_gt_of_ne e1 with hlt | hgt
                  · have := Nat.mul_le_mul_right (E.w th) (show q + 1 ≤ j from hlt)
                    rw [Nat.add_mul, Nat.one_mul] at this
                    rw [if_pos (by omega)]; exact hu'
                  · have := Nat.mul_le_mul_right (E.w th) (show j + 1 ≤ q from hgt)
                    rw [Nat.add_mul, Nat.one_mul] at this
                    rw [if_neg (by omega), if_neg (by omega)]; exact hu')
            refine post_skip hrun ⟨σ, g, hS, ?_, .unk _⟩
            rw [patch_change]; exact hI'
          · exact hk.elim
        · exact hk.elim
      · exact hk.elim
end
end Go.Proofs.YtcaomfbcchemnaaDoor
