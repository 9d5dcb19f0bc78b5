/- A symbolic executor, part T: equality of rows is sound. -/
import Derived.Test.YtcaomfbcchemnaaDoorEngU
import Derived.Laws.StructEq
import Derived.ChangeKeysEq
namespace Go.Proofs.YtcaomfbcchemnaaDoor
open Go.RowKit
set_option linter.unusedVariables false

section
variable {Y : Thy} {E : Eng Y} {o : Oper} {T : Fr Y} {h : Hp Y} {i : Nat} {k : Res Y → Prop}

/-- the answer of a comparison -/
def EqOk (E : Eng Y) (σ : Pl) (g : GH) (w : World) (D : Nat) (t : TypeId) (x y : SV Y) (q : Bool) : Prop :=
  ∀ u v, Den E σ g x u → Den E σ g y v → (Op.equalIn D t u v).run E.P w = .ok q w

theorem eqFs_ok (hE : EngOk E) {σ : Pl} {g : GH} {w : World} {D : Nat} {f : TypeId → SV Y → SV Y → Option (Bool × Bool)} (hf : ∀ t a b l q, f t a b = some (l, q) → EqOk E σ g w D t a b q) {xs ys : List (SV Y)} {us vs : Array Value} (hx : Den E σ g (.agg xs) (.agg us)) (hy : Den E σ g (.agg ys) (.agg vs)) :
    ∀ {fs : List Field} {l q : Bool}, eqFs E f xs ys fs = some (l, q) → (Op.eqFields D us vs fs).run E.P w = .ok q w := by
  intro fs
  induction fs with
  | nil => intro l q h; cases h; simp [Op.eqFields]
  | cons fd fs ih =>
    intro l q h
    simp only [eqFs] at h
    split at h
    · rename_i ti hn hty
      have hn : fd.name ≠ "_" := of_decide_eq_false hn
      split at h
      · rename_i a b ha hb
        split at h
        · rename_i l1 p l2 r h1 h2
          cases h
          obtain ⟨u, hu1, hu2⟩ := part_den hE hty hx ha w
          obtain ⟨v, hv1, hv2⟩ := part_den hE hty hy hb w
          have he := hf _ _ _ _ _ h1 u v hu2 hv2
          unfold Op.eqFields
          rw [if_pos hn]
          simp only [Sem.run_bind, hu1, hv1, he, Result.andThen_ok]
          cases p with
          | true => simpa using ih h2
          | false => simp
        · cases h
      · cases h
    · cases h

theorem eqIs_ok (hE : EngOk E) {σ : Pl} {g : GH} {w : World} {D : Nat} {el : TypeId} {ti : TyI} (hty : E.ty el = some ti) {f : SV Y → SV Y → Option (Bool × Bool)} (hf : ∀ a b l q, f a b = some (l, q) → EqOk E σ g w D el a b q) {xs ys : List (SV Y)} {us vs : Array Value} (hx : Den E σ g (.agg xs) (.agg us)) (hy : Den E σ g (.agg ys) (.agg vs)) :
    ∀ {n j : Nat} {l q : Bool}, eqIs f (isRowD ti.d) ti.size xs ys n j = some (l, q) → (Op.eqItems D el ti.size us vs (List.range' j n)).run E.P w = .ok q w := by
  intro n
  induction n with
  | zero => intro j l q h; cases h; simp [Op.eqItems]
  | succ n ih =>
    intro j l q h
    simp only [eqIs] at h
    split at h
    · rename_i a b ha hb
      split at h
      · rename_i l1 p l2 r h1 h2
        cases h
        obtain ⟨u, hu1, hu2⟩ := part_den hE hty hx ha w
        obtain ⟨v, hv1, hv2⟩ := part_den hE hty hy hb w
        have he := hf _ _ _ _ h1 u v hu2 hv2
        rw [List.range'_succ]
        unfold Op.eqItems
        simp only [Sem.run_bind, hu1, hv1, he, Result.andThen_ok]
        cases p with
        | true => simpa using ih h2
        | false => simp
      · cases h
    · cases h

theorem eqT_ok (hE : EngOk E) (σ : Pl) (g : GH) (w : World) : ∀ (d D : Nat) (t : TypeId) (x y : SV Y) (l q : Bool), d ≤ D → eqT E d t x y = some (l, q) → EqOk E σ g w D t x y q := by
  intro d
  induction d with
  | zero => intro D t x y l q _ h; cases h
  | succ d ih =>
    intro D t x y l q hD h
    obtain ⟨D, rfl⟩ : ∃ D', D = D' + 1 := ⟨D - 1, by omega⟩
    have hD : d ≤ D := by omega
    unfold eqT at h
    intro u v hu hv
    split at h
    · rename_i kd _ _ _ l1 k1 a m k2 b hty
      split at h
      · rename_i hk
        obtain rfl := of_decide_eq_true hk
        cases h; cases hu; cases hv
        exact run_equalIn_int w D t _ _ a b (hE.ty _ _ hty).1
      · cases h
    · rename_i hty
      cases h; cases hu; cases hv
      exact run_equalIn_bool' w D t _ _ (hE.ty _ _ hty).1
    · rename_i hty
      cases h; cases hu; cases hv
      rw [run_equalIn_string w D t _ _ (hE.ty _ _ hty).1, ← beq_toListBytes]
    · rename_i fs _ _ _ xs ys hty
      split at h
      · rename_i hm
        obtain ⟨us, _, rfl, _⟩ := den_agg hu
        obtain ⟨vs, _, rfl, _⟩ := den_agg hv
        have hund := (hE.ty _ _ hty).1
        have hfo : E.P.fieldsOf t = fs := by unfold Program.fieldsOf; rw [hund]
        rw [run_equalIn_struct w D t us vs (by rw [hfo]; exact hund) (hE.eqs _ hm).1, hfo]
        exact eqFs_ok hE (fun t a b l q hq => ih D t a b l q hD hq) hu hv h
      · cases h
    · rename_i n el _ _ _ xs ys hty
      split at h
      · rename_i ti hel
        obtain ⟨us, _, rfl, _⟩ := den_agg hu
        obtain ⟨vs, _, rfl, _⟩ := den_agg hv
        have hund := (hE.ty _ _ hty).1
        obtain ⟨_, info, hi1, hi2, _⟩ := hE.ty _ _ hel
        have hco : E.P.cellsOf el = ti.size := by unfold Program.cellsOf; rw [hi1]; simpa using hi2
        rw [run_equalIn_array w D us vs hund hi1, hco, List.range_eq_range']
        exact eqIs_ok hE hel (fun a b l q hq => ih D el a b l q hD hq) hu hv h
      · cases h
    · cases h

theorem sbinA_ok (hE : EngOk E) {op : BinOp} {t t' : TypeId} {x y : Operand} (ho : o.op = .binOp op t x y t') (hk : sbinA E op t (ev T x) (ev T y) k) : ∃ r, k r ∧ OpTri E o T h i r := by
  have mx : x ∈ o.op.operands.toList := by simp [ho, Op.operands]
  have my : y ∈ o.op.operands.toList := by simp [ho, Op.operands]
  unfold sbinA at hk
  split at hk
  · rename_i xs ys hX hY
    split at hk
    · rename_i l q hm hq
      have run : ∀ (σ : Pl) (g : GH) (w : World) (ρ : Operand → Value), Den E σ g (ev T x) (ρ x) → Den E σ g (ev T y) (ρ y) → ∃ us vs, ρ x = .agg us ∧ ρ y = .agg vs ∧ (Op.equalIn 10000 t (.agg us) (.agg vs)).run E.P w = .ok q w := by
        intro σ g w ρ h1 h2
        rw [hX] at h1; rw [hY] at h2
        obtain ⟨us, _, hu, _⟩ := den_agg h1
        obtain ⟨vs, _, hv, _⟩ := den_agg h2
        rw [hu] at h1; rw [hv] at h2
        exact ⟨us, vs, hu, hv, eqT_ok hE σ g w 100 10000 t _ _ l q (by omega) hq _ _ h1 h2⟩
      split at hk
      · refine tri_two mx my (fun σ g w ρ h1 h2 => ?_) (split_of hk)
        obtain ⟨us, vs, hu, hv, he⟩ := run σ g w ρ h1 h2
        refine ⟨.bool q, ?_, .bool _ _⟩
        unfold execOp
        simp only [ho, hu, hv, Sem.run_bind, run_eqGuard_agg w _ t x y us vs (hE.eqs _ hm).2, Result.andThen_ok, run_eql_struct w t us vs, he, Sem.run_pure]
      · refine tri_two mx my (fun σ g w ρ h1 h2 => ?_) (split_of hk)
        obtain ⟨us, vs, hu, hv, he⟩ := run σ g w ρ h1 h2
        refine ⟨.bool (!q), ?_, .bool _ _⟩
        unfold execOp
        simp only [ho, hu, hv, Sem.run_bind, run_eqGuard_agg w _ t x y us vs (hE.eqs _ hm).2, Result.andThen_ok, run_neq_struct w t us vs, he, Sem.run_pure]
      · exact hk.elim
    · exact hk.elim
  · exact sbin_ok hE ho hk
end
end Go.Proofs.YtcaomfbcchemnaaDoor
