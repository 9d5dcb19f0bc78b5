/- Chapter 21: the chapter's examples: everything is computed. -/
import Derived.Test.YtcaomfbcchemnaaDoorTvOk
import Derived.Test.YtcaomfbcchemnaaDoorEngZB
namespace Go.Proofs.YtcaomfbcchemnaaDoor
open Go
set_option linter.unusedVariables false
set_option linter.unusedSimpArgs false
set_option maxRecDepth 100000
def encL : (th : Th) → domT th → List (SV thy)
  | .ints, (n : Int) => [.int true .i64 n]
  | .ins, (x : Ins) => [.int true .i64 x.op, .int true .i64 x.n, .int true .i64 x.m]
  | .sts, (x : St) => [.int true .i64 x.pc, .int true .i64 x.fuel, .int true .i64 x.status, .int true .i64 x.clause, .psl Th.ints x.stack false]
noncomputable def EL : Eng thy := { E with enc := encL, lit := true }
theorem EL_ok : EngOk EL where
  ty t i h := ((Tr.get_all ty_all h : TyOk Tryd.prog t i)).ty
  enc th x := by cases th <;> rfl
  pos th := by cases th <;> decide
  dec th cs x h := by
    cases th with
    | ints =>
      have h : decInts cs = some x := h
      unfold decInts at h
      split at h
      · cases h
        refine ⟨rfl, fun σ g j sv sv' v h1 h2 hd => ?_⟩
        cases j with
        | zero =>
          simp at h1; subst h1
          have h2 : some (SV.int true .i64 x) = some sv' := h2
          cases h2
          cases hd; exact .int _ _ _
        | succ j => simp at h1
      · cases h
    | ins =>
      have h : decIns cs = some x := h
      unfold decIns at h
      split at h
      · cases h
        refine ⟨rfl, fun σ g j sv sv' v h1 h2 hd => ?_⟩
        match j, h1, h2 with
        | 0, h1, h2 => simp at h1; subst h1; have h2 : some (SV.int true .i64 _) = some sv' := h2; cases h2; cases hd; exact .int _ _ _
        | 1, h1, h2 => simp at h1; subst h1; have h2 : some (SV.int true .i64 _) = some sv' := h2; cases h2; cases hd; exact .int _ _ _
        | 2, h1, h2 => simp at h1; subst h1; have h2 : some (SV.int true .i64 _) = some sv' := h2; cases h2; cases hd; exact .int _ _ _
        | j + 3, h1, h2 => simp at h1
      · cases h
    | sts =>
      have h : decSts cs = some x := h
      unfold decSts at h
      split at h
      · cases h
        refine ⟨rfl, fun σ g j sv sv' v h1 h2 hd => ?_⟩
        match j, h1, h2 with
        | 0, h1, h2 => simp at h1; subst h1; have h2 : some (SV.int true .i64 _) = some sv' := h2; cases h2; cases hd; exact .int _ _ _
        | 1, h1, h2 => simp at h1; subst h1; have h2 : some (SV.int true .i64 _) = some sv' := h2; cases h2; cases hd; exact .int _ _ _
        | 2, h1, h2 => simp at h1; subst h1; have h2 : some (SV.int true .i64 _) = some sv' := h2; cases h2; cases hd; exact .int _ _ _
        | 3, h1, h2 => simp at h1; subst h1; have h2 : some (SV.int true .i64 _) = some sv' := h2; cases h2; cases hd; exact .int _ _ _
        | 4, h1, h2 =>
          simp at h1; subst h1; have h2 : some (SV.psl Th.ints _ false) = some sv' := h2; cases h2
          obtain ⟨base, c, cv, rfl, k1, k2, k3, k4, k5, k6⟩ := den_psl hd
          exact .psl cv k1 k2 (by simp) k4 k5 k6
        | j + 5, h1, h2 => simp at h1
      · cases h
        refine ⟨rfl, fun σ g j sv sv' v h1 h2 hd => ?_⟩
        match j, h1, h2 with
        | 0, h1, h2 => simp at h1; subst h1; have h2 : some (SV.int true .i64 _) = some sv' := h2; cases h2; cases hd; exact .int _ _ _
        | 1, h1, h2 => simp at h1; subst h1; have h2 : some (SV.int true .i64 _) = some sv' := h2; cases h2; cases hd; exact .int _ _ _
        | 2, h1, h2 => simp at h1; subst h1; have h2 : some (SV.int true .i64 _) = some sv' := h2; cases h2; cases hd; exact .int _ _ _
        | 3, h1, h2 => simp at h1; subst h1; have h2 : some (SV.int true .i64 _) = some sv' := h2; cases h2; cases hd; exact .int _ _ _
        | 4, h1, h2 =>
          simp at h1; subst h1; have h2 : some (SV.psl Th.ints [] false) = some sv' := h2; cases h2
          cases hd
          exact .psl (l := []) (fun _ _ => undef) (Nat.le_refl _) (by unfold maxLen; omega) (by simp) (fun _ => rfl) (by simp) (by simp)
        | j + 5, h1, h2 => simp at h1
      · cases h
  leaf th x := by cases th <;> rfl
  thOf el th i h h2 := E_ok.thOf el th i h h2
  encI i th x := by cases th <;> rfl
  mix := E_ok.mix
  eqs t h := E_ok.eqs t h
theorem F0_okL : FnsOk EL F0 := ⟨F0_ok.sumG, F0_ok.fnG, (fun f S h => by cases h), F0_ok.fn, (fun f j L h => by cases h)⟩
theorem like1 : EngLike E EL := ⟨rfl, rfl, rfl, fun th x => by cases th <;> rfl, fun th x j sv' hj => by
  cases th with
  | ints => match j, hj with
    | 0, hj => cases hj; exact ⟨_, rfl, fun σ g v h => by cases h; exact .int _ _ _⟩
  | ins => match j, hj with
    | 0, hj => cases hj; exact ⟨_, rfl, fun σ g v h => by cases h; exact .int _ _ _⟩
    | 1, hj => cases hj; exact ⟨_, rfl, fun σ g v h => by cases h; exact .int _ _ _⟩
    | 2, hj => cases hj; exact ⟨_, rfl, fun σ g v h => by cases h; exact .int _ _ _⟩
  | sts => match j, hj with
    | 0, hj => cases hj; exact ⟨_, rfl, fun σ g v h => by cases h; exact .int _ _ _⟩
    | 1, hj => cases hj; exact ⟨_, rfl, fun σ g v h => by cases h; exact .int _ _ _⟩
    | 2, hj => cases hj; exact ⟨_, rfl, fun σ g v h => by cases h; exact .int _ _ _⟩
    | 3, hj => cases hj; exact ⟨_, rfl, fun σ g v h => by cases h; exact .int _ _ _⟩
    | 4, hj => cases hj; exact ⟨_, rfl, fun σ g v h => h⟩⟩
theorem like2 : EngLike EL E := ⟨rfl, rfl, rfl, fun th x => by cases th <;> rfl, fun th x j sv' hj => by
  cases th with
  | ints => match j, hj with
    | 0, hj => cases hj; exact ⟨_, rfl, fun σ g v h => by cases h; exact .int _ _ _⟩
  | ins => match j, hj with
    | 0, hj => cases hj; exact ⟨_, rfl, fun σ g v h => by cases h; exact .int _ _ _⟩
    | 1, hj => cases hj; exact ⟨_, rfl, fun σ g v h => by cases h; exact .int _ _ _⟩
    | 2, hj => cases hj; exact ⟨_, rfl, fun σ g v h => by cases h; exact .int _ _ _⟩
  | sts => match j, hj with
    | 0, hj => cases hj; exact ⟨_, rfl, fun σ g v h => by cases h; exact .int _ _ _⟩
    | 1, hj => cases hj; exact ⟨_, rfl, fun σ g v h => by cases h; exact .int _ _ _⟩
    | 2, hj => cases hj; exact ⟨_, rfl, fun σ g v h => by cases h; exact .int _ _ _⟩
    | 3, hj => cases hj; exact ⟨_, rfl, fun σ g v h => by cases h; exact .int _ _ _⟩
    | 4, hj => cases hj; exact ⟨_, rfl, fun σ g v h => h⟩⟩
theorem cond_sane : callF EL F0 (vc EL F0 2000) 8 [] hp0 0 (fun r => ret EL (patch hp0 0 r) r.v (.bool false true)) = (true = true) := by kernel_rfl
theorem sane_pure : PureC E 8 [] (.bool false true) := by
  refine PureC.like like2 like1 (pure_of_call EL_ok (callF_ok EL_ok F0_okL fun f N c => (vc_ok EL_ok F0_okL 2000 f N c).1) ?_)
  rw [cond_sane]
end Go.Proofs.YtcaomfbcchemnaaDoor
