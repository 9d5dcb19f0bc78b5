/- A symbolic executor, part D: arithmetic, fields, elements. -/
import Derived.Test.YtcaomfbcchemnaaDoorEngC
namespace Go.Proofs.YtcaomfbcchemnaaDoor
open Go.RowKit
set_option linter.unusedVariables false

section
variable {Y : Thy} {E : Eng Y} {o : Oper} {T : Fr Y} {h : Hp Y} {i : Nat} {k : Res Y → Prop}

/-- a computation on two operands -/
theorem tri_two {x y : Operand} {v : SV Y} (hx : x ∈ o.op.operands.toList) (hy : y ∈ o.op.operands.toList)
    (H : ∀ (σ : Pl) (g : GH) (w : World) (ρ : Operand → Value), Den E σ g (ev T x) (ρ x) → Den E σ g (ev T y) (ρ y) → ∃ u, (execOp ρ o).run E.P w = .ok (.value u) w ∧ Den E σ g v u) (hk : k (quiet [] v)) : ∃ r, k r ∧ OpTri E o T h i r :=
  ⟨_, hk, tri_quiet fun B σ g w ρ hh _ hI hd => H σ g w ρ (hd x hx) (hd y hy)⟩
theorem tri_one {x : Operand} {v : SV Y} (hx : x ∈ o.op.operands.toList)
    (H : ∀ (σ : Pl) (g : GH) (w : World) (ρ : Operand → Value), Den E σ g (ev T x) (ρ x) → ∃ u, (execOp ρ o).run E.P w = .ok (.value u) w ∧ Den E σ g v u) (hk : k (quiet [] v)) : ∃ r, k r ∧ OpTri E o T h i r :=
  ⟨_, hk, tri_quiet fun B σ g w ρ hh _ hI hd => H σ g w ρ (hd x hx)⟩

theorem run_equal_bool {P : Program} {t : TypeId} (hu : P.underlying t = some .bool) (a b : Bool) (w : World) : (Op.equal t (.bool a) (.bool b)).run P w = .ok (a == b) w := by
  show (Op.equalIn (9999 + 1) t (.bool a) (.bool b)).run P w = _
  rw [Op.equalIn]
  rw [Sem.run_bind, run_underlying hu]
  rfl

set_option maxHeartbeats 1000000 in
theorem sbin_ok (hE : EngOk E) {op : BinOp} {t t' : TypeId} {x y : Operand} (ho : o.op = .binOp op t x y t') (hk : sbin E op t (ev T x) (ev T y) k) : ∃ r, k r ∧ OpTri E o T h i r := by
  have mx : x ∈ o.op.operands.toList := by simp [ho, Op.operands]
  have my : y ∈ o.op.operands.toList := by simp [ho, Op.operands]
  unfold sbin at hk
  split at hk
  · rename_i l kd a m kd' b hX hY
    unfold sbinI at hk
    split at hk
    · obtain ⟨hp, hk⟩ := need_of hk
      refine tri_two mx my (fun σ g w ρ h1 h2 => ?_) hk
      rw [hX] at h1; rw [hY] at h2
      generalize hv1 : ρ x = v1 at h1; generalize hv2 : ρ y = v2 at h2
      cases h1; cases h2
      have hp' : ¬ b < 0 := by omega
      exact ⟨.int kd (wr kd (a * 2 ^ min b.toNat kd.bits)), by unfold execOp; simp [ho, hv1, hv2, eqGuard, binOp, Op.shift, hp', wr, go_sem], .int _ _ _⟩
    · obtain ⟨hp, hk⟩ := need_of hk
      refine tri_two mx my (fun σ g w ρ h1 h2 => ?_) hk
      rw [hX] at h1; rw [hY] at h2
      generalize hv1 : ρ x = v1 at h1; generalize hv2 : ρ y = v2 at h2
      cases h1; cases h2
      have hp' : ¬ b < 0 := by omega
      exact ⟨.int kd (a.fdiv (2 ^ min b.toNat kd.bits)), by unfold execOp; simp [ho, hv1, hv2, eqGuard, binOp, Op.shift, hp', wr, go_sem], .int _ _ _⟩
    · split at hk
      · exact hk.elim
      · rename_i hkd
        obtain rfl : kd = kd' := by simpa using hkd
        unfold sbinK at hk
        split at hk
        case h_4 | h_5 =>
          obtain ⟨hp, hk⟩ := need_of hk
          refine tri_two mx my (fun σ g w ρ h1 h2 => ?_) hk
          rw [hX] at h1; rw [hY] at h2
          generalize hv1 : ρ x = v1 at h1; generalize hv2 : ρ y = v2 at h2
          cases h1; cases h2
          refine ⟨_, ?_, .int _ _ _⟩
          unfold execOp; simp [ho, hv1, hv2, eqGuard, binOp, Op.intDiv, hp, wr, go_sem]
        case h_1 | h_2 | h_3 =>
          refine tri_two mx my (fun σ g w ρ h1 h2 => ?_) hk
          rw [hX] at h1; rw [hY] at h2
          generalize hv1 : ρ x = v1 at h1; generalize hv2 : ρ y = v2 at h2
          cases h1; cases h2
          refine ⟨_, ?_, .int _ _ _⟩
          unfold execOp; simp [ho, hv1, hv2, eqGuard, binOp, Op.intArith, wr, go_sem]
        case h_12 =>
          refine tri_two mx my (fun σ g w ρ h1 h2 => ?_) hk
          rw [hX] at h1; rw [hY] at h2
          generalize hv1 : ρ x = v1 at h1; generalize hv2 : ρ y = v2 at h2
          cases h1; cases h2
          refine ⟨_, ?_, .int _ _ _⟩
          cases op <;> first | (rename_i hn1 hn2 hn3 hn4 hn5 hn6 hn7 hn8 hn9 hn10 hn11 hn12 hn13; first | exact (hn1 rfl).elim | exact (hn2 rfl).elim | exact (hn3 rfl).elim | exact (hn4 rfl).elim | exact (hn5 rfl).elim | exact (hn6 rfl).elim | exact (hn7 rfl).elim | exact (hn8 rfl).elim | exact (hn9 rfl).elim | exact (hn10 rfl).elim | exact (hn11 rfl).elim | exact (hn12 rfl).elim | exact (hn13 rfl).elim) | (unfold execOp; simp only [ho, hv1, hv2]; simp only [eqGuard, binOp, Op.intBits, bitsOp, wr, ne_eq, not_true_eq_false, if_false, ite_false]; rfl)
        all_goals
          have hk := split_of hk
          refine tri_two mx my (fun σ g w ρ h1 h2 => ?_) hk
          rw [hX] at h1; rw [hY] at h2
          generalize hv1 : ρ x = v1 at h1; generalize hv2 : ρ y = v2 at h2
          cases h1; cases h2
          refine ⟨_, ?_, .bool _ _⟩
          unfold execOp; simp [ho, hv1, hv2, eqGuard, binOp, Op.intCmp, wr, go_sem]
  · rename_i l a m b hX hY
    unfold sbinB at hk
    split at hk
    · rename_i sz by_ z ht
      have hu := (hE.ty _ _ ht).1
      split at hk
      case h_3 => exact hk.elim
      all_goals
        have hk := split_of hk
        refine tri_two mx my (fun σ g w ρ h1 h2 => ?_) hk
        rw [hX] at h1; rw [hY] at h2
        generalize hv1 : ρ x = v1 at h1; generalize hv2 : ρ y = v2 at h2
        cases h1; cases h2
        refine ⟨_, ?_, .bool _ _⟩
        unfold execOp; simp only [ho, hv1, hv2]
        rw [Sem.run_bind, Sem.run_bind]
        rw [show (eqGuard _ t x y (.bool a) (.bool b)).run E.P w = .ok () w by simp [eqGuard, go_sem]]
        simp only [Result.andThen_ok, binOp, Sem.run_bind, run_equal_bool hu, Sem.run_pure]
    · exact hk.elim
  · rename_i l a m b hX hY
    unfold sbinS at hk
    split at hk
    · obtain ⟨hp, hk⟩ := need_of hk
      refine tri_two mx my (fun σ g w ρ h1 h2 => ?_) hk
      rw [hX] at h1; rw [hY] at h2
      generalize hv1 : ρ x = v1 at h1; generalize hv2 : ρ y = v2 at h2
      cases h1; cases h2
      refine ⟨.string (a ++ b), ?_, .str _ _⟩
      have hp' : ¬ ((a.size + b.size : Nat) : Int) > IntKind.i64.max := by
        have : IntKind.i64.max = 9223372036854775807 := by decide
        rw [this]; omega
      unfold execOp; simp only [ho, hv1, hv2, eqGuard, binOp, Op.stringOp]; rw [if_neg hp']; simp [go_sem]
    case h_4 => exact hk.elim
    all_goals
      have hk := split_of hk
      refine tri_two mx my (fun σ g w ρ h1 h2 => ?_) hk
      rw [hX] at h1; rw [hY] at h2
      generalize hv1 : ρ x = v1 at h1; generalize hv2 : ρ y = v2 at h2
      cases h1; cases h2
      refine ⟨_, ?_, .bool _ _⟩
      unfold execOp; simp [ho, hv1, hv2, eqGuard, binOp, Op.stringOp, go_sem]
  · exact hk.elim

theorem sun_ok {op : UnOp} {t : TypeId} {x : Operand} (ho : o.op = .unOp op t x) (hk : sun op (ev T x) k) : ∃ r, k r ∧ OpTri E o T h i r := by
  have mx : x ∈ o.op.operands.toList := by simp [ho, Op.operands]
  unfold sun at hk
  split at hk
  case h_4 => exact hk.elim
  all_goals
    rename_i hX
    refine tri_one mx (fun σ g w ρ h1 => ?_) hk
    rw [hX] at h1
    generalize hv1 : ρ x = v1 at h1
    cases h1
    refine ⟨_, ?_, by first | exact .int _ _ _ | exact .bool _ _⟩
    unfold execOp; simp [ho, hv1, Op.unary, Op.intArith, Op.intBits, bitsOp, wr, go_sem]

theorem sconvert_ok (hE : EngOk E) {src dst : TypeId} {x : Operand} (hs : (E.P.underlying src).isSome = true) (ho : o.op = .convert src dst x) (hk : sconvert E dst (ev T x) k) : ∃ r, k r ∧ OpTri E o T h i r := by
  have mx : x ∈ o.op.operands.toList := by simp [ho, Op.operands]
  obtain ⟨d, hd⟩ := Option.isSome_iff_exists.1 hs
  unfold sconvert at hk
  split at hk
  case h_3 => exact hk.elim
  all_goals
    rename_i ht hX
    have hu := (hE.ty _ _ ht).1
    refine tri_one mx (fun σ g w ρ h1 => ?_) hk
    rw [hX] at h1
    generalize hv1 : ρ x = v1 at h1
    cases h1
    refine ⟨_, ?_, by first | exact .int _ _ _ | exact .str _ _⟩
    unfold execOp; simp [ho, hv1, convert, run_underlying hu, run_underlying hd, Conv.intToInt, wr, go_sem]
end
end Go.Proofs.YtcaomfbcchemnaaDoor
