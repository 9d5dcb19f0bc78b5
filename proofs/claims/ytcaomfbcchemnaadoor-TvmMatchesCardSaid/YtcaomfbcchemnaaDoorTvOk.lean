import Derived.Test.YtcaomfbcchemnaaDoorTvEng
namespace Go.Proofs.YtcaomfbcchemnaaDoor
open Go
set_option linter.unusedVariables false
set_option linter.unusedSimpArgs false
set_option maxRecDepth 100000
theorem E_ok : EngOk E where
  ty t i h := ((Tr.get_all ty_all h : TyOk Tryd.prog t i)).ty
  enc th x := by cases th <;> rfl
  pos th := by cases th <;> decide
  dec th cs x h := by
    cases th with
    | ints =>
      have h : decInts cs = some x := h
      unfold decInts at h
      split at h
      · cases h
        refine ⟨rfl, fun σ g j sv sv' v h1 h2 hd => ?_⟩
        cases j with
        | zero =>
          simp at h1; subst h1
          have h2 : some (SV.int false .i64 x) = some sv' := h2
          cases h2
          cases hd; exact .int _ _ _
        | succ j => simp at h1
      · cases h
    | ins =>
      have h : decIns cs = some x := h
      unfold decIns at h
      split at h
      · cases h
        refine ⟨rfl, fun σ g j sv sv' v h1 h2 hd => ?_⟩
        match j, h1, h2 with
        | 0, h1, h2 => simp at h1; subst h1; have h2 : some (SV.int false .i64 _) = some sv' := h2; cases h2; cases hd; exact .int _ _ _
        | 1, h1, h2 => simp at h1; subst h1; have h2 : some (SV.int false .i64 _) = some sv' := h2; cases h2; cases hd; exact .int _ _ _
        | 2, h1, h2 => simp at h1; subst h1; have h2 : some (SV.int false .i64 _) = some sv' := h2; cases h2; cases hd; exact .int _ _ _
        | j + 3, h1, h2 => simp at h1
      · cases h
    | sts =>
      have h : decSts cs = some x := h
      unfold decSts at h
      split at h
      · cases h
        refine ⟨rfl, fun σ g j sv sv' v h1 h2 hd => ?_⟩
        match j, h1, h2 with
        | 0, h1, h2 => simp at h1; subst h1; have h2 : some (SV.int false .i64 _) = some sv' := h2; cases h2; cases hd; exact .int _ _ _
        | 1, h1, h2 => simp at h1; subst h1; have h2 : some (SV.int false .i64 _) = some sv' := h2; cases h2; cases hd; exact .int _ _ _
        | 2, h1, h2 => simp at h1; subst h1; have h2 : some (SV.int false .i64 _) = some sv' := h2; cases h2; cases hd; exact .int _ _ _
        | 3, h1, h2 => simp at h1; subst h1; have h2 : some (SV.int false .i64 _) = some sv' := h2; cases h2; cases hd; exact .int _ _ _
        | 4, h1, h2 =>
          simp at h1; subst h1; have h2 : some (SV.psl Th.ints _ false) = some sv' := h2; cases h2
          obtain ⟨base, c, cv, rfl, k1, k2, k3, k4, k5, k6⟩ := den_psl hd
          exact .psl cv k1 k2 (by simp) k4 k5 k6
        | j + 5, h1, h2 => simp at h1
      · cases h
        refine ⟨rfl, fun σ g j sv sv' v h1 h2 hd => ?_⟩
        match j, h1, h2 with
        | 0, h1, h2 => simp at h1; subst h1; have h2 : some (SV.int false .i64 _) = some sv' := h2; cases h2; cases hd; exact .int _ _ _
        | 1, h1, h2 => simp at h1; subst h1; have h2 : some (SV.int false .i64 _) = some sv' := h2; cases h2; cases hd; exact .int _ _ _
        | 2, h1, h2 => simp at h1; subst h1; have h2 : some (SV.int false .i64 _) = some sv' := h2; cases h2; cases hd; exact .int _ _ _
        | 3, h1, h2 => simp at h1; subst h1; have h2 : some (SV.int false .i64 _) = some sv' := h2; cases h2; cases hd; exact .int _ _ _
        | 4, h1, h2 =>
          simp at h1; subst h1; have h2 : some (SV.psl Th.ints [] false) = some sv' := h2; cases h2
          cases hd
          exact .psl (l := []) (fun _ _ => undef) (Nat.le_refl _) (by unfold maxLen; omega) (by simp) (fun _ => rfl) (by simp) (by simp)
        | j + 5, h1, h2 => simp at h1
      · cases h
  leaf th x := by cases th <;> rfl
  thOf el th i h h2 := by
    have h : thOfT el = some th := h
    unfold thOfT at h
    split at h
    · rename_i e; cases h
      rw [Nat.eq_of_beq_eq_true e] at h2
      have h2 : tyT.get 3 = some i := h2
      cases h2; rfl
    · rename_i e _; cases h
      rw [Nat.eq_of_beq_eq_true e] at h2
      have h2 : tyT.get 47 = some i := h2
      cases h2; rfl
    · rename_i e _ _; cases h
      rw [Nat.eq_of_beq_eq_true e] at h2
      have h2 : tyT.get 34 = some i := h2
      cases h2; rfl
    · cases h
  encI i th x := by cases th <;> rfl
  mix := by kernel_rfl
  eqs t h := by
    have h : memB t [46, 47, 48, 49] = true := h
    rw [memB_iff] at h
    simp at h
    rcases h with rfl | rfl | rfl | rfl <;> exact ⟨by kernel_rfl, by kernel_rfl⟩
theorem F0_ok : FnsOk E F0 where
  sumG f S h := by cases h
  fnG f fn h := (Tr.get_all fn_all h : FnOk Tryd.prog f fn).good
  sum f S h := by cases h
  fn f fn h := (Tr.get_all fn_all h : FnOk Tryd.prog f fn).1
  loop f j L h := by cases h
theorem call0 (n : Nat) : CallOk E (callF E F0 (vc E F0 n)) := callF_ok E_ok F0_ok fun f N c => (vc_ok E_ok F0_ok n f N c).1
end Go.Proofs.YtcaomfbcchemnaaDoor
