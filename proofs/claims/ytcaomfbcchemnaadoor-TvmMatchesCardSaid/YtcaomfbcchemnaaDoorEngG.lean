/- A symbolic executor, part G: tuples, lengths, minima, elements' places, composites. -/
import Derived.Test.YtcaomfbcchemnaaDoorEngF
namespace Go.Proofs.YtcaomfbcchemnaaDoor
open Go.RowKit
set_option linter.unusedVariables false

section
variable {Y : Thy} {E : Eng Y} {o : Oper} {T : Fr Y} {h : Hp Y} {i : Nat} {k : Res Y → Prop} {call : Nat → List (SV Y) → Hp Y → Nat → (Res Y → Prop) → Prop}

theorem extract_ok {x : Operand} {n : Nat} (ho : o.op = .extract x n) (hk : step E call o.op T h i k) : ∃ r, k r ∧ OpTri E o T h i r := by
  have mx : x ∈ o.op.operands.toList := by simp [ho, Op.operands]
  have mx' := mx
  rw [ho] at hk
  simp only [step, stPick, stAlloc, stBox, stNil, stConv, stMap, stExt, stLen, stMm, stApp, stCopy, stVal, stCall, stBuild, stBuildS, stFunc, stSlice] at hk
  split at hk
  · rename_i vs hX
    split at hk
    · rename_i v hv
      refine tri_one mx (fun σ g w ρ h1 => ?_) hk
      rw [hX] at h1
      generalize hv1 : ρ x = v1 at h1
      obtain ⟨arr, c, rfl, hs, hc, hd⟩ := den_tup h1
      refine ⟨c n, ?_, hd _ _ hv⟩
      have := hc n (List.getElem?_eq_some_iff.1 hv).1
      unfold execOp
      simp [ho, hv1, Instr.extract, this, go_sem]
    · exact hk.elim
  · exact hk.elim

theorem nilCheck_ok {x : Operand} (ho : o.op = .nilCheck x) (hk : step E call o.op T h i k) : ∃ r, k r ∧ OpTri E o T h i r := by
  have mx : x ∈ o.op.operands.toList := by simp [ho, Op.operands]
  rw [ho] at hk
  simp only [step, stPick, stAlloc, stBox, stNil, stConv, stMap, stExt, stLen, stMm, stApp, stCopy, stVal, stCall, stBuild, stBuildS, stFunc, stSlice] at hk
  split at hk
  · rename_i b n hX
    refine tri_one mx (fun σ g w ρ h1 => ?_) hk
    rw [hX] at h1
    refine ⟨ρ x, ?_, h1⟩
    generalize hv1 : ρ x = v1 at h1
    cases h1
    unfold execOp
    simp [ho, hv1, go_sem]
  · rename_i f a b hX
    refine tri_one mx (fun σ g w ρ h1 => ?_) hk
    rw [hX] at h1
    refine ⟨ρ x, ?_, h1⟩
    generalize hv1 : ρ x = v1 at h1
    cases h1
    unfold execOp
    simp [ho, hv1, go_sem]
  · exact hk.elim

theorem den_map {σ : Pl} {g : GH} {T : Fr Y} {ρ : Operand → Value} {xs : Array Operand} (hx : ∀ x ∈ xs.toList, Den E σ g (ev T x) (ρ x)) :
    (xs.map ρ).size = (xs.toList.map (ev T)).length ∧ (∀ j, j < (xs.toList.map (ev T)).length → (xs.map ρ)[j]? = some (ρ (xs.getD j default))) ∧ ∀ (j : Nat) sv, (xs.toList.map (ev T))[j]? = some sv → Den E σ g sv (ρ (xs.getD j default)) := by
  refine ⟨by simp, fun j hj => ?_, fun j sv hj => ?_⟩
  · have hj' : j < xs.size := by simpa using hj
    simp [hj', Array.getD]
  · rw [List.getElem?_map] at hj
    obtain ⟨x, hx', rfl⟩ := Option.map_eq_some_iff.1 hj
    have hj' : j < xs.size := by have := (List.getElem?_eq_some_iff.1 hx').1; simpa using this
    have : xs.getD j default = x := by
      have h2 := (List.getElem?_eq_some_iff.1 hx').2
      simp [Array.getD, hj']; simpa using h2
    rw [this]
    exact hx x (List.mem_of_getElem? hx')

theorem makeFunc_ok {fn : Fn} {a b : Array Operand} (ho : o.op = .makeFunc fn a b) (hk : step E call o.op T h i k) : ∃ r, k r ∧ OpTri E o T h i r := by
  rw [ho] at hk
  simp only [step, stPick, stAlloc, stBox, stNil, stConv, stMap, stExt, stLen, stMm, stApp, stCopy, stVal, stCall, stBuild, stBuildS, stFunc, stSlice] at hk
  refine ⟨_, hk, tri_quiet fun B σ g w ρ hh _ hI hx => ⟨.func fn (a.map ρ) (b.map ρ), ?_, ?_⟩⟩
  · unfold execOp; simp [ho, Instr.makeFunc, go_sem]
  · obtain ⟨h1, h2, h3⟩ := den_map (E := E) (σ := σ) (g := g) (T := T) (ρ := ρ) (xs := a) (fun x hm => hx x (by simp [ho, Op.operands] at hm ⊢; exact .inl hm))
    obtain ⟨k1, k2, k3⟩ := den_map (E := E) (σ := σ) (g := g) (T := T) (ρ := ρ) (xs := b) (fun x hm => hx x (by simp [ho, Op.operands] at hm ⊢; exact .inr hm))
    exact .fn _ _ h1 h2 h3 k1 k2 k3

theorem slen_ok (hE : EngOk E) {c : Call} (hc : c.callee = .builtin .len) (ho : o.op = .call c) {t : TypeId} {x : Operand} (ht : c.argTypes[0]? = some t) (hx0 : c.args[0]? = some x) (hk : slen E t (ev T x) h k) : ∃ r, k r ∧ OpTri E o T h i r := by
  have mx : x ∈ o.op.operands.toList := by
    have : x ∈ c.args := Array.mem_of_getElem? hx0
    simp [ho, Op.operands, Call.operands, this]
  have run : ∀ (w : World) (ρ : Operand → Value) (u : Value), (Builtin.len_ c.argTypes o.type (c.args.map ρ)).run E.P w = .ok u w → (execOp ρ o).run E.P w = .ok (.value u) w := by
    intro w ρ u hl
    unfold execOp
    simp only [ho, resolve, hc, Sem.run_bind, Sem.run_pure, Result.andThen_ok, invoke, builtin, hl]
  have ha : ∀ ρ : Operand → Value, (c.args.map ρ)[0]? = some (ρ x) := fun ρ => by simp [hx0]
  unfold slen at hk
  split at hk
  case h_6 => exact hk.elim
  all_goals
    refine tri_one mx (fun σ g w ρ h1 => ?_) hk
  · rename_i el sz by_ z th l f hty hX
    rw [hX] at h1
    generalize hv1 : ρ x = v1 at h1
    cases h1
    refine ⟨_, run w ρ _ ?_, .int _ _ _⟩
    simp [Builtin.len_, ht, ha, hv1, run_und_ty hE hty, goInt, go_sem]
  · rename_i el sz by_ z b off n wd cap hty hX
    rw [hX] at h1
    generalize hv1 : ρ x = v1 at h1
    cases h1
    refine ⟨_, run w ρ _ ?_, .int _ _ _⟩
    simp [Builtin.len_, ht, ha, hv1, run_und_ty hE hty, goInt, go_sem]
  · rename_i el sz by_ z n cap hty hX
    rw [hX] at h1
    generalize hv1 : ρ x = v1 at h1
    cases h1
    refine ⟨_, run w ρ _ ?_, .int _ _ _⟩
    simp [Builtin.len_, ht, ha, hv1, run_und_ty hE hty, goInt, go_sem]
  · rename_i sz by_ z l s hty hX
    rw [hX] at h1
    generalize hv1 : ρ x = v1 at h1
    cases h1
    refine ⟨_, run w ρ _ ?_, .int _ _ _⟩
    simp [Builtin.len_, ht, ha, hv1, run_und_ty hE hty, goInt, go_sem]
  · rename_i n el sz by_ z hty
    refine ⟨_, run w ρ _ ?_, .int _ _ _⟩
    simp [Builtin.len_, ht, ha, run_und_ty hE hty, goInt, go_sem]

theorem smm_den (mx : Bool) {σ : Pl} {g : GH} (w : World) : ∀ (ys : List (SV Y)) (x : SV Y) (v : Value) (vs : List Value) (sv : SV Y), Den E σ g x v → DenL E σ g ys vs → smm mx x ys = some sv →
    ∃ u, (match mx with | true => vs.foldlM Builtin.max2 v | false => vs.foldlM Builtin.min2 v : Sem Value).run E.P w = .ok u w ∧ Den E σ g sv u := by
  intro ys
  induction ys with
  | nil =>
    intro x v vs sv hx hl hk
    have : vs = [] := by have := hl.1; cases vs <;> first | rfl | simp at this
    subst this
    obtain rfl : x = sv := by cases x <;> simpa [smm] using hk
    refine ⟨v, ?_, hx⟩
    cases mx <;> simp [go_sem]
  | cons y ys ih =>
    intro x v vs sv hx hl hk
    cases vs with
    | nil => have := hl.1; simp at this
    | cons u vs =>
      have hy : Den E σ g y u := hl.2 0 y u rfl rfl
      have hl' : DenL E σ g ys vs := ⟨by have := hl.1; simpa using this, fun j sv v h1 h2 => hl.2 (j + 1) sv v (by simpa using h1) (by simpa using h2)⟩
      cases x <;> cases y <;> simp only [smm] at hk <;> try (cases hk; done)
      rename_i l kd a m kd' b
      split at hk
      · rename_i hkd
        obtain rfl := of_decide_eq_true hkd
        cases hx; cases hy
        obtain ⟨u, h2, h3⟩ := ih _ (.int kd (mm2 mx a b)) vs sv (.int _ _ _) hl' hk
        refine ⟨u, ?_, h3⟩
        cases mx <;> simpa [Builtin.max2, Builtin.min2, mm2, go_sem] using h2
      · cases hk
theorem sminmax_ok (mx : Bool) {c : Call} (hc : c.callee = .builtin (if mx then .max else .min)) (ho : o.op = .call c) {x : Operand} {r : List Operand} (hx0 : c.args.toList = x :: r) (hk : sminmax mx (ev T x) (r.map (ev T)) k) : ∃ r, k r ∧ OpTri E o T h i r := by
  unfold sminmax at hk
  split at hk
  · rename_i sv hs
    refine ⟨_, hk, tri_quiet fun B σ g w ρ hh _ hI hx => ?_⟩
    have hm : ∀ y ∈ x :: r, Den E σ g (ev T y) (ρ y) := fun y hy => hx y (by
      have : y ∈ c.args.toList := hx0 ▸ hy
      simp [ho, Op.operands, Call.operands]; exact .inr (by simpa using this))
    obtain ⟨u, h1, h2⟩ := smm_den (E := E) mx w (r.map (ev T)) (ev T x) (ρ x) (r.map ρ) sv (hm x (by simp)) ⟨by simp, fun j sv v h1 h2 => by
      rw [List.getElem?_map] at h1 h2
      obtain ⟨y, hy, rfl⟩ := Option.map_eq_some_iff.1 h1
      rw [hy] at h2
      obtain rfl : ρ y = v := by simpa using h2
      exact hm y (by simp [List.mem_of_getElem? hy])⟩ hs
    refine ⟨u, ?_, h2⟩
    have ha : (c.args.map ρ).toList = ρ x :: r.map ρ := by simp [hx0]
    unfold execOp
    cases mx with
    | true => simp only [ho, resolve, hc, if_true, Sem.run_bind, Sem.run_pure, Result.andThen_ok, invoke, builtin, Builtin.max_, ha]; rw [h1]; rfl
    | false => simp only [ho, resolve, hc, if_false, Bool.false_eq_true, Sem.run_bind, Sem.run_pure, Result.andThen_ok, invoke, builtin, Builtin.min_, ha]; rw [h1]; rfl
  · exact hk.elim

theorem den_psl {σ : Pl} {g : GH} {th : Y.Th} {l : List (Y.dom th)} {full : Bool} {v : Value} (h : Den E σ g (.psl th l full) v) : ∃ (base : Option Addr) (c : Nat) (cv : Nat → Nat → Value), v = .slice base l.length c ∧ l.length ≤ c ∧ c ≤ maxLen ∧ (full = true → c = l.length) ∧ (base = none → c = 0) ∧
    (0 < l.length → ∃ r o, base = some ⟨r, o, none⟩ ∧ ∀ i x, l[i]? = some x → ∀ j, j < (E.enc th x).length → g.cell r (o + i * E.w th + j) = some (cv i j)) ∧ ∀ i x, l[i]? = some x → ∀ j sv, (E.enc th x)[j]? = some sv → Den E σ g sv (cv i j) := by
  cases h with
  | psl cv hl hm hf hn hb hd => exact ⟨_, _, cv, rfl, hl, hm, hf, hn, hb, hd⟩

theorem sindexAddr_ok (hE : EngOk E) {t : TypeId} {x ix : Operand} (ho : o.op = .indexAddr t x ix) (hk : sindexAddr E t (ev T x) (ev T ix) h k) : ∃ r, k r ∧ OpTri E o T h i r := by
  have mx : x ∈ o.op.operands.toList := by simp [ho, Op.operands]
  have my : ix ∈ o.op.operands.toList := by simp [ho, Op.operands]
  unfold sindexAddr at hk
  split at hk
  · rename_i len el sz by_ z l kd n ht hIx
    have run : ∀ (w : World) (ρ : Operand → Value) (ti : TyI) (a : Addr), E.ty el = some ti → 0 ≤ n ∧ n < (len : Int) → ρ x = .pointer (some a) → ρ ix = .int kd n → (execOp ρ o).run E.P w = .ok (.value (.pointer (some (a.add (n.toNat * ti.size))))) w := by
      intro w ρ ti a hel h0 hv1 hv2
      unfold execOp
      simp only [ho, hv1, hv2, Instr.indexAt, Sem.run_bind, asIntOf, Sem.run_pure, Result.andThen_ok, run_und_ty hE ht, Instr.sureAddr, if_pos h0, run_sizeOf_ty hE hel]
    split at hk
    · rename_i ti b off hel hX
      split at hk
      · rename_i hb
        simp only [Bool.and_eq_true, decide_eq_true_eq] at hb
        have hlt : n.toNat < len := blt_lt hb.2
        have h0 : 0 ≤ n ∧ n < (len : Int) := by omega
        refine tri_two mx my (fun σ g w ρ h1 h2 => ?_) hk
        rw [hX] at h1; rw [hIx] at h2
        generalize hv1 : ρ x = v1 at h1; generalize hv2 : ρ ix = v2 at h2
        cases h2; cases h1
        refine ⟨_, run w ρ ti _ hel h0 hv1 hv2, ?_⟩
        rw [add_at]
        exact .ptr (by assumption)
      · exact hk.elim
    · rename_i ti th y off hel hX
      split at hk
      · rename_i hb
        simp only [Bool.and_eq_true, decide_eq_true_eq] at hb
        have hlt : n.toNat < len := blt_lt hb.2
        have h0 : 0 ≤ n ∧ n < (len : Int) := by omega
        refine tri_two mx my (fun σ g w ρ h1 h2 => ?_) hk
        rw [hX] at h1; rw [hIx] at h2
        generalize hv1 : ρ x = v1 at h1; generalize hv2 : ρ ix = v2 at h2
        cases h2; cases h1
        refine ⟨_, run w ρ ti _ hel h0 hv1 hv2, ?_⟩
        rw [add_at, Nat.add_assoc]
        exact .pptr _ (by assumption) (by assumption)
      · exact hk.elim
    · rename_i ti b off hel hX
      obtain ⟨hlo, hhi, hk⟩ := hk
      have hk := caseK_of hk (by omega) (by omega)
      refine tri_two mx my (fun σ g w ρ h1 h2 => ?_) hk
      rw [hX] at h1; rw [hIx] at h2
      generalize hv1 : ρ x = v1 at h1; generalize hv2 : ρ ix = v2 at h2
      cases h2; cases h1
      refine ⟨_, run w ρ ti _ hel ⟨hlo, hhi⟩ hv1 hv2, ?_⟩
      rw [add_at]
      exact .ptr (by assumption)
    · rename_i ti th y off hel hX
      obtain ⟨hlo, hhi, hk⟩ := hk
      have hk := caseK_of hk (by omega) (by omega)
      refine tri_two mx my (fun σ g w ρ h1 h2 => ?_) hk
      rw [hX] at h1; rw [hIx] at h2
      generalize hv1 : ρ x = v1 at h1; generalize hv2 : ρ ix = v2 at h2
      cases h2; cases h1
      refine ⟨_, run w ρ ti _ hel ⟨hlo, hhi⟩ hv1 hv2, ?_⟩
      rw [add_at, Nat.add_assoc]
      exact .pptr _ (by assumption) (by assumption)
    · exact hk.elim
  · rename_i el sz by_ z l kd n ht hIx
    split at hk
    · rename_i ti hel
      split at hk
      · rename_i th ls full hX
        obtain ⟨hw, hk⟩ := sameN_of hk
        obtain ⟨h0, hlt, y, hy, hk⟩ := ixK_of hk
        refine tri_two mx my (fun σ g w ρ h1 h2 => ?_) hk
        rw [hX] at h1; rw [hIx] at h2
        generalize hv1 : ρ x = v1 at h1; generalize hv2 : ρ ix = v2 at h2
        cases h2
        obtain ⟨base, c, cv, rfl, hl, hm, hf, hn, hb, hd⟩ := den_psl h1
        obtain ⟨r, o', rfl, hcell⟩ := hb (by omega)
        refine ⟨.pointer (some ⟨r, o' + n.toNat * E.w th + 0, none⟩), ?_, .pptr (fun j => cv n.toNat j) (fun j hj => hcell _ _ hy j hj) (fun j sv hj => hd _ _ hy j sv hj)⟩
        have h0' : 0 ≤ n ∧ n < (ls.length : Int) := ⟨h0, hlt⟩
        unfold execOp
        simp only [ho, hv1, hv2, Instr.indexAt, Sem.run_bind, asIntOf, Sem.run_pure, Result.andThen_ok, run_und_ty hE ht, if_pos h0', run_sizeOf_ty hE hel, hw, add_at, Nat.add_zero]
      · rename_i b off len w' cap hX
        have run : ∀ (w : World) (ρ : Operand → Value) (r c : Nat), (0 ≤ n ∧ n < (len : Int)) → ti.size = w' → ρ x = .slice (some ⟨r, off * w', none⟩) len c → ρ ix = .int kd n → (execOp ρ o).run E.P w = .ok (.value (.pointer (some ⟨r, (off + n.toNat) * w', none⟩))) w := by
          intro w ρ r c h0 hw hv1 hv2
          unfold execOp
          simp only [ho, hv1, hv2, Instr.indexAt, Sem.run_bind, asIntOf, Sem.run_pure, Result.andThen_ok, run_und_ty hE ht, if_pos h0, run_sizeOf_ty hE hel, hw, add_at, Nat.add_mul]
        split at hk
        · obtain ⟨hp, hk⟩ := need_of hk
          obtain ⟨hw, hk⟩ := sameN_of hk
          refine tri_two mx my (fun σ g w ρ h1 h2 => ?_) hk
          rw [hX] at h1; rw [hIx] at h2
          generalize hv1 : ρ x = v1 at h1; generalize hv2 : ρ ix = v2 at h2
          cases h2; cases h1
          exact ⟨_, run w ρ _ _ hp hw hv1 hv2, .ptr (by assumption)⟩
        · obtain ⟨hp, hk⟩ := need_of hk
          obtain ⟨hw, hk⟩ := sameN_of hk
          obtain ⟨_, hk⟩ := sameN_of hk
          refine tri_two mx my (fun σ g w ρ h1 h2 => ?_) hk
          rw [hX] at h1; rw [hIx] at h2
          generalize hv1 : ρ x = v1 at h1; generalize hv2 : ρ ix = v2 at h2
          cases h2; cases h1
          exact ⟨_, run w ρ _ _ hp hw hv1 hv2, by simpa using Den.eptr (off := 0) (i := off + n.toNat) (w := w') (by assumption)⟩
        · exact hk.elim
      · exact hk.elim
    · exact hk.elim
  · exact hk.elim
end
end Go.Proofs.YtcaomfbcchemnaaDoor
