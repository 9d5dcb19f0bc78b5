/- A symbolic executor, part E: fields, elements, loads, lengths. -/
import Derived.Test.YtcaomfbcchemnaaDoorEngD
namespace Go.Proofs.YtcaomfbcchemnaaDoor
open Go.RowKit
set_option linter.unusedVariables false

section
variable {Y : Thy} {E : Eng Y} {o : Oper} {T : Fr Y} {h : Hp Y} {i : Nat} {k : Res Y → Prop}

theorem ty_info (hE : EngOk E) {t : TypeId} {i : TyI} (ht : E.ty t = some i) : (E.P.info? t).map (·.size) = some i.size := by
  obtain ⟨_, info, h1, h2, _⟩ := hE.ty _ _ ht
  simp [h1, h2]
theorem run_sizeOf_ty (hE : EngOk E) {t : TypeId} {i : TyI} (ht : E.ty t = some i) (w : World) : (sizeOf t).run E.P w = .ok i.size w := by
  obtain ⟨_, info, h1, h2, _⟩ := hE.ty _ _ ht
  simp [sizeOf, typeInfo, h1, h2, go_sem]
theorem run_und_ty (hE : EngOk E) {t : TypeId} {i : TyI} (ht : E.ty t = some i) (w : World) : (underlying t).run E.P w = .ok i.d w := run_underlying (hE.ty _ _ ht).1 w
theorem run_isAgg_ty (hE : EngOk E) {t : TypeId} {i : TyI} (ht : E.ty t = some i) (w : World) : (isAgg t).run E.P w = .ok (isRowD i.d) w := by
  unfold isAgg
  rw [Sem.run_bind, run_und_ty hE ht]
  cases hd : i.d <;> simp [isRowD, go_sem]

theorem add_at (b o n : Nat) : (⟨b, o, none⟩ : Addr).add n = ⟨b, o + n, none⟩ := by unfold Addr.add; split <;> simp_all

theorem sfieldAddr_ok (hE : EngOk E) {s : TypeId} {x : Operand} {f : Nat} (ho : o.op = .fieldAddr s x f) (hk : sfieldAddr E s (ev T x) f k) : ∃ r, k r ∧ OpTri E o T h i r := by
  have mx : x ∈ o.op.operands.toList := by simp [ho, Op.operands]
  unfold sfieldAddr at hk
  split at hk
  · rename_i fs sz by_ z hs
    split at hk
    · rename_i fd hfd
      split at hk
      · rename_i ti hti
        split at hk
        · exact hk.elim
        · rename_i hpos
          have hpos' : ¬ ti.size = 0 := fun e => hpos e
          have run : ∀ (w : World) (ρ : Operand → Value) (r n : Nat), ρ x = .pointer (some ⟨r, n, none⟩) → (execOp ρ o).run E.P w = .ok (.value (.pointer (some ⟨r, n + fd.offset, none⟩))) w := by
            intro w ρ r n hv
            unfold execOp
            simp only [ho, hv, Instr.fieldAt, Sem.run_bind, run_und_ty hE hs, Result.andThen_ok, hfd, Instr.sureAddr, Sem.run_pure, fieldPlace, run_sizeOf_ty hE hti, hpos', if_false, add_at]
          split at hk
          case h_4 => exact hk.elim
          all_goals
            rename_i hX
            refine tri_one mx (fun σ g w ρ h1 => ?_) hk
            rw [hX] at h1
            generalize hv1 : ρ x = v1 at h1
            cases h1
            refine ⟨_, run w ρ _ _ hv1, ?_⟩
          · exact .ptr (by assumption)
          · rw [Nat.add_assoc]; exact .eptr (by assumption)
          · rw [Nat.add_assoc]; exact .pptr _ (by assumption) (by assumption)
      · exact hk.elim
    · exact hk.elim
  · exact hk.elim

/-- a row read out of cells -/
theorem rowAt_den {σ : Pl} {g : GH} {isRow : Bool} {n off : Nat} {cs : List (SV Y)} {v : SV Y} (hr : rowAt isRow n off cs = some v) (u : Nat → Value) (hu : ∀ j sv, cs[j]? = some sv → Den E σ g sv (u j)) :
    match isRow with | true => off + n ≤ cs.length ∧ Den E σ g v (.agg ((List.range n).map fun j => u (off + j)).toArray) | false => off < cs.length ∧ Den E σ g v (u off) := by
  cases isRow with
  | true =>
    simp only [rowAt] at hr
    split at hr
    · rename_i hle
      have hle := of_decide_eq_true hle
      obtain rfl := Option.some.inj hr
      refine ⟨hle, .agg (fun j => u (off + j)) ?_ ?_ ?_⟩
      · simp; omega
      · intro j hj
        have hj' : j < n := by simp at hj; omega
        simp [hj']
      · intro j sv hj
        rw [List.getElem?_take] at hj
        split at hj
        · rw [List.getElem?_drop] at hj; exact hu _ _ hj
        · cases hj
    · cases hr
  | false =>
    simp only [rowAt] at hr
    exact ⟨(List.getElem?_eq_some_iff.1 hr).1, hu _ _ hr⟩

theorem run_loadVar_one (hE : EngOk E) {t : TypeId} {ti : TyI} (ht : E.ty t = some ti) (hd : isRowD ti.d = false) (w : World) (r n : Nat) (v : Value) (hc : w.cell? ⟨r, n, none⟩ = some v) : (loadVar t ⟨r, n, none⟩).run E.P w = .ok v w := by
  unfold loadVar
  rw [Sem.run_bind, run_isAgg_ty hE ht, hd]
  simp [go_sem, load, Sem.run, hc]
theorem run_loadVar_ty (hE : EngOk E) {t : TypeId} {ti : TyI} (ht : E.ty t = some ti) (w : World) (r n : Nat) (u : Nat → Value) (hc : ∀ j, j < (match isRowD ti.d with | true => ti.size | false => 1) → w.cell? ⟨r, n + j, none⟩ = some (u (n + j))) :
    (loadVar t ⟨r, n, none⟩).run E.P w = .ok (match isRowD ti.d with | true => .agg ((List.range ti.size).map fun j => u (n + j)).toArray | false => u n) w := by
  cases hd : isRowD ti.d with
  | true =>
    rw [hd] at hc
    refine run_loadVar_mid w r n t _ ti.d (fun j v hj => ?_) (hE.ty _ _ ht).1 (by cases hq : ti.d <;> rw [hq] at hd <;> first | rfl | cases hd) (by simpa using ty_info hE ht)
    rw [List.getElem?_map] at hj
    obtain ⟨j', hj', rfl⟩ := Option.map_eq_some_iff.1 hj
    obtain ⟨hlt, rfl⟩ : j < ti.size ∧ j = j' := by
      have := List.getElem?_eq_some_iff.1 hj'
      obtain ⟨h1, h2⟩ := this
      simp at h1 h2
      exact ⟨h1, h2⟩
    exact hc j hlt
  | false =>
    rw [hd] at hc
    exact run_loadVar_one hE ht hd w r n _ (by simpa using hc 0 (by simp))

theorem blk_cell {σ : Pl} {g : GH} {w : World} {r z : Nat} {b : Blk Y} (hm : ∀ es, b ≠ .map es) (hb : BlkOk E σ g w r z b) : ∃ u : Nat → Value, (∀ j, j < (b.cells E).length → w.cell? ⟨r, j, none⟩ = some (u j)) ∧ ∀ j sv, (b.cells E)[j]? = some sv → Den E σ g sv (u j) := by
  have hb' : ∃ arr e, w.heap[r]? = some (.cells arr e (0, 0)) ∧ arr.size = z ∧ (b.cells E).length ≤ z ∧ (∀ (j : Nat) sv, (b.cells E)[j]? = some sv → ∃ v, arr[j]? = some v ∧ Den E σ g sv v) ∧ ElOk E e b := by
    cases b with
    | map es => exact absurd rfl (hm es)
    | raw cs fz tg => exact hb
    | rows th l fz => exact hb
  obtain ⟨arr, e, h1, h2, h3, h4, _⟩ := hb'
  refine ⟨fun j => arr.getD j undef, fun j hj => ?_, fun j sv hj => ?_⟩
  · have : j < arr.size := by omega
    simp [World.cell?, h1, Array.getD, this]
  · obtain ⟨v, hv, hd⟩ := h4 j sv hj
    have : arr.getD j undef = v := by rw [Array.getD_eq_getD_getElem?, hv]; rfl
    show Den E σ g sv (arr.getD j undef)
    rw [this]; exact hd

theorem flat_get (hE : EngOk E) (th : Y.Th) (l : List (Y.dom th)) (i : Nat) (x : Y.dom th) (hx : l[i]? = some x) (j : Nat) (hj : j < E.w th) : (l.flatMap (E.enc th))[i * E.w th + j]? = (E.enc th x)[j]? := by
  induction l generalizing i with
  | nil => simp at hx
  | cons y l ih =>
    rw [List.flatMap_cons]
    cases i with
    | zero =>
      obtain rfl : y = x := by simpa using hx
      rw [Nat.zero_mul, Nat.zero_add, List.getElem?_append_left (by rw [hE.enc]; exact hj)]
    | succ i =>
      rw [List.getElem?_append_right (by rw [hE.enc, Nat.add_mul]; omega), hE.enc, ← ih i (by simpa using hx)]
      congr 1
      rw [Nat.add_mul]; omega
theorem flat_len (hE : EngOk E) (th : Y.Th) (l : List (Y.dom th)) : (l.flatMap (E.enc th)).length = l.length * E.w th := by
  induction l with
  | nil => simp
  | cons y l ih => rw [List.flatMap_cons, List.length_append, ih, hE.enc, List.length_cons, Nat.add_mul]; omega

theorem sload_ok (hE : EngOk E) {t : TypeId} {x : Operand} (ho : o.op = .load t x) (hk : sload E t (ev T x) h k) : ∃ r, k r ∧ OpTri E o T h i r := by
  have mx : x ∈ o.op.operands.toList := by simp [ho, Op.operands]
  have run : ∀ (w : World) (ρ : Operand → Value) (a : Addr) (v : Value), ρ x = .pointer (some a) → (loadVar t a).run E.P w = .ok v w → (execOp ρ o).run E.P w = .ok (.value v) w := by
    intro w ρ a v hv hl
    unfold execOp
    simp only [ho, hv, Instr.loadAt, Sem.run_bind, Instr.sureAddr, Sem.run_pure, Result.andThen_ok, hl]
  unfold sload at hk
  split at hk
  · exact hk.elim
  · rename_i ti ht
    split at hk
    · rename_i b off hX
      split at hk
      · rename_i cs fz tg hb
        split at hk
        · rename_i v hr
          refine ⟨_, hk, tri_quiet fun B σ g w ρ hh hrd hI hx => ?_⟩
          have h1 := hx x mx
          rw [hX] at h1
          generalize hv1 : ρ x = v1 at h1
          cases h1
          rename_i r z hσ
          obtain ⟨r', z', hσ', hbo⟩ := hI.blk b _ ((hrd b (by simp)).trans hb)
          rw [hσ] at hσ'; cases hσ'
          obtain ⟨u, hu1, hu2⟩ := blk_cell (by intro es e; cases e) hbo
          have := rowAt_den hr u hu2
          refine ⟨_, run w ρ _ _ hv1 (run_loadVar_ty hE ht w r off u ?_), ?_⟩
          · intro j hj
            refine hu1 _ ?_
            cases hd : isRowD ti.d with
            | true => rw [hd] at this hj; have := this.1; show _ < cs.length; simp at hj; omega
            | false => rw [hd] at this hj; have := this.1; show _ < cs.length; simp at hj; omega
          · cases hd : isRowD ti.d with
            | true => rw [hd] at this; exact this.2
            | false => rw [hd] at this; exact this.2
        · exact hk.elim
      · exact hk.elim
    · rename_i b j w' off hX
      split at hk
      · rename_i th l fz hb
        obtain ⟨hww, hk2⟩ := sameN_of hk
        clear hk
        subst hww
        obtain ⟨hj, y, hy, hk⟩ := getK_of hk2
        split at hk
        · rename_i v hr
          refine ⟨_, hk, tri_quiet fun B σ g w ρ hh hrd hI hx => ?_⟩
          have h1 := hx x mx
          rw [hX] at h1
          generalize hv1 : ρ x = v1 at h1
          cases h1
          rename_i r z hσ
          obtain ⟨r', z', hσ', hbo⟩ := hI.blk b _ ((hrd b (by simp)).trans hb)
          rw [hσ] at hσ'; cases hσ'
          obtain ⟨u, hu1, hu2⟩ := blk_cell (by intro es e; cases e) hbo
          simp only [Blk.cells] at hu1 hu2
          have := rowAt_den hr (fun m => u (j * E.w th + m)) (fun m sv hm => hu2 _ _ (by rw [flat_get hE th l j y hy m (by rw [← hE.enc th y]; exact (List.getElem?_eq_some_iff.1 hm).1)]; exact hm))
          have hlen : j * E.w th + E.w th ≤ l.length * E.w th := by
            have := Nat.mul_le_mul_right (E.w th) (show j + 1 ≤ l.length from hj)
            rwa [Nat.add_mul, Nat.one_mul] at this
          have he := hE.enc th y
          refine ⟨_, run w ρ _ _ hv1 (run_loadVar_ty hE ht w r (j * E.w th + off) u ?_), ?_⟩
          · intro m hm
            refine hu1 _ ?_
            rw [flat_len hE]
            cases hd : isRowD ti.d with
            | true => rw [hd] at this hm; have := this.1; simp at hm; omega
            | false => rw [hd] at this hm; have := this.1; simp at hm; omega
          · cases hd : isRowD ti.d with
            | true => rw [hd] at this; simpa only [Nat.add_assoc] using this.2
            | false => rw [hd] at this; exact this.2
        · exact hk.elim
      · exact hk.elim
    · rename_i th y off hX
      split at hk
      · rename_i v hr
        refine ⟨_, hk, tri_quiet fun B σ g w ρ hh hrd hI hx => ?_⟩
        have h1 := hx x mx
        rw [hX] at h1
        generalize hv1 : ρ x = v1 at h1
        cases h1
        rename_i r o' c hc hd'
        have := rowAt_den hr c hd'
        have := rowAt_den hr (fun m => c m) hd'
        refine ⟨_, run w ρ _ _ hv1 (run_loadVar_ty hE ht w r (o' + off) (fun m => c (m - o')) ?_), ?_⟩
        · intro j hj
          rw [show o' + off + j - o' = off + j by omega, show o' + off + j = o' + (off + j) by omega]
          refine hI.gc _ _ _ (hc _ ?_)
          cases hd : isRowD ti.d with
          | true => rw [hd] at this hj; have := this.1; simp at hj; omega
          | false => rw [hd] at this hj; have := this.1; simp at hj; omega
        · cases hd : isRowD ti.d with
          | true => rw [hd] at this; simp only [show ∀ j, o' + off + j - o' = off + j from fun j => by omega]; exact this.2
          | false => rw [hd] at this; simp only [show o' + off - o' = off by omega]; exact this.2
      · exact hk.elim
    · rename_i gl hX
      split at hk
      · rename_i v hg hd
        refine ⟨_, hk, tri_quiet fun B σ g w ρ hh hrd hI hx => ?_⟩
        have h1 := hx x mx
        rw [hX] at h1
        generalize hv1 : ρ x = v1 at h1
        cases h1
        obtain ⟨u, hu, hdn⟩ := hI.glob _ _ hg
        exact ⟨u, run w ρ _ _ hv1 (run_loadVar_one hE ht hd w gl 0 u (hI.gc _ _ _ hu)), hdn.mono (fun _ _ e => by cases e) (.refl _)⟩
      · exact hk.elim
    · exact hk.elim
end
end Go.Proofs.YtcaomfbcchemnaaDoor
