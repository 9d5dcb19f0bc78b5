/- A symbolic executor, part F: parts of values, elements, lengths, composites. -/
import Derived.Test.YtcaomfbcchemnaaDoorEngE
namespace Go.Proofs.YtcaomfbcchemnaaDoor
open Go.RowKit
set_option linter.unusedVariables false

section
variable {Y : Thy} {E : Eng Y} {o : Oper} {T : Fr Y} {h : Hp Y} {i : Nat} {k : Res Y → Prop}

theorem den_agg {σ : Pl} {g : GH} {cs : List (SV Y)} {v : Value} (h : Den E σ g (.agg cs) v) : ∃ (arr : Array Value) (c : Nat → Value), v = .agg arr ∧ arr.size = cs.length ∧ (∀ j, j < cs.length → arr[j]? = some (c j)) ∧ ∀ j sv, cs[j]? = some sv → Den E σ g sv (c j) := by
  cases h with
  | agg c hs hc hd => exact ⟨_, c, rfl, hs, hc, hd⟩
theorem den_tup {σ : Pl} {g : GH} {cs : List (SV Y)} {v : Value} (h : Den E σ g (.tup cs) v) : ∃ (arr : Array Value) (c : Nat → Value), v = .tuple arr ∧ arr.size = cs.length ∧ (∀ j, j < cs.length → arr[j]? = some (c j)) ∧ ∀ j sv, cs[j]? = some sv → Den E σ g sv (c j) := by
  cases h with
  | tup c hs hc hd => exact ⟨_, c, rfl, hs, hc, hd⟩
theorem blt_lt {a b : Nat} (h : Nat.blt a b = true) : a < b := Nat.le_of_ble_eq_true h

theorem part_den (hE : EngOk E) {t : TypeId} {ti : TyI} (ht : E.ty t = some ti) {σ : Pl} {g : GH} {cs : List (SV Y)} {arr : Array Value} (hd : Den E σ g (.agg cs) (.agg arr)) {off : Nat} {v : SV Y} (hr : rowAt (isRowD ti.d) ti.size off cs = some v) (w : World) :
    ∃ u, (part t arr off).run E.P w = .ok u w ∧ Den E σ g v u := by
  obtain ⟨arr', c, e, hs, hc, hd⟩ := den_agg hd
  cases e
  have := rowAt_den hr c hd
  unfold part
  rw [Sem.run_bind, run_isAgg_ty hE ht]
  cases hq : isRowD ti.d with
  | true =>
    rw [hq] at this
    refine ⟨_, by simp only [Result.andThen_ok, if_true, Sem.run_bind, run_sizeOf_ty hE ht, Sem.run_pure]; rfl, ?_⟩
    have he : arr.extract off (off + ti.size) = ((List.range ti.size).map fun j => c (off + j)).toArray := by
      apply Array.ext_getElem?
      intro j
      rw [Array.getElem?_extract]
      by_cases hj : j < ti.size
      · rw [if_pos (by omega), hc _ (by omega)]; simp [hj]
      · rw [if_neg (by omega)]; simp [hj]
    rw [he]; exact this.2
  | false =>
    rw [hq] at this
    refine ⟨c off, ?_, this.2⟩
    simp [hc off this.1, go_sem]

theorem sfield_ok (hE : EngOk E) {s : TypeId} {x : Operand} {f : Nat} (ho : o.op = .field s x f) (hk : sfield E s (ev T x) f k) : ∃ r, k r ∧ OpTri E o T h i r := by
  have mx : x ∈ o.op.operands.toList := by simp [ho, Op.operands]
  unfold sfield at hk
  split at hk
  · rename_i fs sz by_ z cs hs hX
    split at hk
    · rename_i fd hfd
      split at hk
      · rename_i ti hti
        split at hk
        · rename_i v hr
          refine tri_one mx (fun σ g w ρ h1 => ?_) hk
          rw [hX] at h1
          generalize hv1 : ρ x = v1 at h1
          obtain ⟨arr, _, rfl, _⟩ := den_agg h1
          obtain ⟨u, hu, hd⟩ := part_den hE hti h1 hr w
          refine ⟨u, ?_, hd⟩
          unfold execOp
          simp only [ho, hv1, Instr.field, Sem.run_bind, run_und_ty hE hs, Result.andThen_ok, hfd, asAgg, Sem.run_pure, hu]
        · exact hk.elim
      · exact hk.elim
    · exact hk.elim
  · exact hk.elim

theorem intsOf_den {kd : IntKind} : ∀ {cs : List (SV Y)} {ls : List Int}, intsOf kd cs = some ls → ls.length = cs.length ∧ ∀ (j : Nat) y, ls[j]? = some y → ∃ l, cs[j]? = some (.int l kd y) := by
  intro cs
  induction cs with
  | nil => intro ls h; simp [intsOf] at h; subst h; simp
  | cons x r ih =>
    intro ls h
    cases x <;> simp only [intsOf] at h <;> try (cases h; done)
    rename_i l k n
    split at h
    · rename_i l' hk hl'
      obtain rfl := of_decide_eq_true hk
      obtain rfl := Option.some.inj h
      obtain ⟨h1, h2⟩ := ih hl'
      refine ⟨by simp [h1], fun j y hj => ?_⟩
      cases j with
      | zero => obtain rfl : n = y := by simpa using hj
                exact ⟨l, rfl⟩
      | succ j => exact h2 j y (by simpa using hj)
    · cases h

theorem sindex_ok (hE : EngOk E) {t : TypeId} {x ix : Operand} (ho : o.op = .index t x ix) (hk : sindex E t (ev T x) (ev T ix) k) : ∃ r, k r ∧ OpTri E o T h i r := by
  have mx : x ∈ o.op.operands.toList := by simp [ho, Op.operands]
  have my : ix ∈ o.op.operands.toList := by simp [ho, Op.operands]
  unfold sindex at hk
  split at hk
  · rename_i len el sz by_ z cs l kd n ht hX hIx
    split at hk
    · rename_i ti hel
      split at hk
      · rename_i v hb hr
        simp only [Bool.and_eq_true, decide_eq_true_eq] at hb
        have hlt : n.toNat < len := blt_lt hb.2
        refine tri_two mx my (fun σ g w ρ h1 h2 => ?_) hk
        rw [hX] at h1; rw [hIx] at h2
        generalize hv1 : ρ x = v1 at h1; generalize hv2 : ρ ix = v2 at h2
        obtain ⟨arr, _, rfl, _⟩ := den_agg h1
        cases h2
        obtain ⟨u, hu, hd⟩ := part_den hE hel h1 hr w
        refine ⟨u, ?_, hd⟩
        unfold execOp
        have h0 : 0 ≤ n ∧ n < (len : Int) := by omega
        simp only [ho, hv1, hv2, Instr.index, Sem.run_bind, asIntOf, Sem.run_pure, Result.andThen_ok, run_und_ty hE ht]
        rw [if_pos h0]
        simp only [Sem.run_bind, run_sizeOf_ty hE hel, Result.andThen_ok, hu, Sem.run_pure]
      · exact hk.elim
    · rename_i kd' sz' by' z' hel
      split at hk
      · rename_i ls hls hlen
        simp only [Bool.and_eq_true] at hlen
        obtain rfl : sz' = 1 := Nat.eq_of_beq_eq_true hlen.2
        have hlen : cs.length = len := Nat.eq_of_beq_eq_true hlen.1
        obtain ⟨h0, hlt, hk⟩ := hk
        obtain ⟨hll, hget⟩ := intsOf_den hls
        obtain ⟨y, hy⟩ : ∃ y, ls[n.toNat]? = some y := ⟨_, List.getElem?_eq_getElem (by omega)⟩
        obtain ⟨l', hcs⟩ := hget _ _ hy
        refine tri_two mx my (fun σ g w ρ h1 h2 => ?_) (hk y hy)
        rw [hX] at h1; rw [hIx] at h2
        generalize hv1 : ρ x = v1 at h1; generalize hv2 : ρ ix = v2 at h2
        cases h2
        obtain ⟨arr, c, rfl, hs, hc, hd⟩ := den_agg h1
        have hd' := hd _ _ hcs
        have hcc := hc n.toNat (by omega)
        generalize c n.toNat = cv at hd' hcc
        cases hd'
        refine ⟨.int kd' y, ?_, .int _ _ _⟩
        have h0' : 0 ≤ n ∧ n < (len : Int) := ⟨h0, hlt⟩
        obtain ⟨hu, info, hi1, hi2, _⟩ := hE.ty _ _ hel
        unfold execOp
        simp only [ho, hv1, hv2, Instr.index, Sem.run_bind, asIntOf, Sem.run_pure, Result.andThen_ok, run_und_ty hE ht]
        rw [if_pos h0']
        simp only [Sem.run_bind, run_sizeOf_ty hE hel, Result.andThen_ok, part, run_isAgg_ty hE hel, isRowD, Nat.mul_one, hcc]
        rfl
      · exact hk.elim
    · exact hk.elim
  · rename_i sz by_ z l s m kd n ht hX hIx
    obtain ⟨h0, h1', y, hy, hk⟩ := strK_of hk
    have hp : 0 ≤ n ∧ n < s.size := ⟨h0, h1'⟩
    refine tri_two mx my (fun σ g w ρ h1 h2 => ?_) hk
    rw [hX] at h1; rw [hIx] at h2
    generalize hv1 : ρ x = v1 at h1; generalize hv2 : ρ ix = v2 at h2
    cases h1; cases h2
    refine ⟨.int .u8 y.toNat, ?_, .int _ _ _⟩
    unfold execOp
    simp only [ho, hv1, hv2, Instr.index, Sem.run_bind, asIntOf, Sem.run_pure, Result.andThen_ok, run_und_ty hE ht, if_pos hp.1, hy]
  · exact hk.elim
end
end Go.Proofs.YtcaomfbcchemnaaDoor
