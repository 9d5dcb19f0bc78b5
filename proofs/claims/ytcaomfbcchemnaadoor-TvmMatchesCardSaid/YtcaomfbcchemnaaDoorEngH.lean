/- A symbolic executor, part H: new blocks, changed blocks. -/
import Derived.Test.YtcaomfbcchemnaaDoorEngG
namespace Go.Proofs.YtcaomfbcchemnaaDoor
open Go.RowKit
set_option linter.unusedVariables false

section
variable {Y : Thy} {E : Eng Y} {o : Oper} {T : Fr Y} {h : Hp Y} {i : Nat} {k : Res Y → Prop} {call : Nat → List (SV Y) → Hp Y → Nat → (Res Y → Prop) → Prop}

theorem BlkOk.cells_iff {σ : Pl} {g : GH} {w : World} {r z : Nat} {b : Blk Y} (hm : ∀ es, b ≠ .map es) : BlkOk E σ g w r z b ↔
    ∃ arr e, w.heap[r]? = some (.cells arr e (0, 0)) ∧ arr.size = z ∧ (b.cells E).length ≤ z ∧ (∀ (j : Nat) sv, (b.cells E)[j]? = some sv → ∃ v, arr[j]? = some v ∧ Den E σ g sv v) ∧ ElOk E e b := by
  cases b with
  | map es => exact absurd rfl (hm es)
  | raw cs fz tg => exact Iff.rfl
  | rows th l fz => exact Iff.rfl

theorem BlkOk.mono {σ σ' : Pl} {g g' : GH} {w w' : World} {r z : Nat} {b : Blk Y} (hσ : Pl.le σ σ') (hg : g.le g') (hw : w'.heap[r]? = w.heap[r]?) (hb : BlkOk E σ g w r z b) : BlkOk E σ' g' w' r z b := by
  cases b with
  | map es =>
    obtain ⟨ents, c, h1, h2, h3⟩ := hb
    exact ⟨ents, c, hw.trans h1, h2, fun j k sv hj => let ⟨v, bo, h4, h5⟩ := h3 j k sv hj; ⟨v, bo, h4, h5.mono hσ hg⟩⟩
  | raw cs fz tg =>
    obtain ⟨arr, e, h1, h2, h3, h4, h0⟩ := hb
    exact ⟨arr, e, hw.trans h1, h2, h3, fun j sv hj => let ⟨v, h5, h6⟩ := h4 j sv hj; ⟨v, h5, h6.mono hσ hg⟩, h0⟩
  | rows th l fz =>
    obtain ⟨arr, e, h1, h2, h3, h4, h0⟩ := hb
    exact ⟨arr, e, hw.trans h1, h2, h3, fun j sv hj => let ⟨v, h5, h6⟩ := h4 j sv hj; ⟨v, h5, h6.mono hσ hg⟩, h0⟩

def updσ (σ : Pl) (i : Nat) (p : Nat × Nat) : Pl := fun j => if j = i then some p else σ j
theorem updσ_le {σ : Pl} {i : Nat} {p : Nat × Nat} (h : σ i = none) : Pl.le σ (updσ σ i p) := by
  intro b q hb
  unfold updσ
  by_cases e : b = i
  · rw [e, h] at hb; cases hb
  · rw [if_neg e]; exact hb

theorem patch_fresh (h : Hp Y) (i : Nat) (v : SV Y) (b : Blk Y) (rd : List Nat) : patch h i (fresh i v b rd) = upd h i (some b) := by
  funext j
  simp only [patch, fresh, memB, Bool.false_or, upd]
  by_cases hj : j = i
  · subst hj
    have h1 : Nat.ble j j = true := by rw [Nat.ble_eq]; omega
    have h2 : Nat.blt j (j + 1) = true := by rw [Nat.blt, Nat.ble_eq]; omega
    simp [h1, h2]
  · have h1 : Nat.beq j i = false := by rw [← Bool.not_eq_true, Nat.beq_eq]; exact hj
    have h2 : (Nat.ble i j && Nat.blt j (i + 1)) = false := by
      rw [Bool.and_eq_false_iff, ← Bool.not_eq_true, Nat.ble_eq, ← Bool.not_eq_true, Nat.blt, Nat.ble_eq]; omega
    rw [h1, h2]
theorem patch_change (h : Hp Y) (i b : Nat) (x : Option (Blk Y)) (v : SV Y) (rd : List Nat) : patch h i (change b x v rd) = upd h b x := by
  funext j
  simp only [patch, change, memB, upd, Nat.add_zero]
  have h2 : (Nat.ble i j && Nat.blt j i) = false := by
    rw [Bool.and_eq_false_iff, ← Bool.not_eq_true, Nat.ble_eq, ← Bool.not_eq_true, Nat.blt, Nat.ble_eq]; omega
  rw [h2]
  cases Nat.beq j b <;> rfl
theorem upd_apply {α : Type} (h : Nat → α) (i : Nat) (x : α) (j : Nat) : upd h i x j = if j = i then x else h j := by
  unfold upd
  by_cases e : j = i
  · subst e; simp
  · have : Nat.beq j i = false := by rw [← Bool.not_eq_true, Nat.beq_eq]; exact e
    rw [this, if_neg e]

/-- a new block -/
theorem inv_alloc {B : Nat} {σ : Pl} {g : GH} {w : World} {hh : Hp Y} (hI : Inv E B σ hh g w) (hB : B ≤ w.heap.size) (hi : σ i = none) {arr : Array Value} {e : TypeId} {blk : Blk Y} (hm : ∀ es, blk ≠ .map es)
    (hel : ElOk E e blk) (hl : (blk.cells E).length ≤ arr.size) (hd : ∀ (j : Nat) sv, (blk.cells E)[j]? = some sv → ∃ v, arr[j]? = some v ∧ Den E σ g sv v) :
    Inv E B (updσ σ i (w.heap.size, arr.size)) (upd hh i (some blk)) g (w.alloc (.cells arr e)) ∧ Stp i 1 [] σ g w (updσ σ i (w.heap.size, arr.size)) g (w.alloc (.cells arr e)) := by
  have hle : Pl.le σ (updσ σ i (w.heap.size, arr.size)) := updσ_le hi
  have hold : ∀ r, r < w.heap.size → (w.alloc (.cells arr e)).heap[r]? = w.heap[r]? := fun r hr => by first | exact heap_alloc_old w _ hr | exact heap_alloc_old w _ r hr
  have hsz : (w.alloc (.cells arr e)).heap.size = w.heap.size + 1 := by show (w.heap.push _).size = _; simp
  have glt : ∀ r n v, g.cell r n = some v → r < w.heap.size := fun r n v hc => block_lt_of_cell (hI.gc r n v hc)
  have gmlt : ∀ r es, g.obj r = some es → r < w.heap.size := fun r es hc => by obtain ⟨c, h⟩ := hI.gm r es hc; exact (Array.getElem?_eq_some_iff.1 h).1
  refine ⟨⟨?_, ?_, ?_, ?_, ?_, ?_, ?_, hI.glob⟩, ⟨hle, ?_, .refl _, fun _ _ _ h => .inl h, fun _ _ h => .inl h, fun r hr _ => hold r hr, by omega, rfl, rfl, rfl, ?_⟩⟩
  · intro r n v hc
    rw [World.cell?_of_block (w := w) (hold r (glt _ _ _ hc))]; exact hI.gc _ _ _ hc
  · intro r es hc
    obtain ⟨c, h⟩ := hI.gm r es hc
    exact ⟨c, (hold r (gmlt _ _ hc)).trans h⟩
  · intro b x hx
    rw [upd_apply] at hx
    by_cases hb : b = i
    · rw [if_pos hb] at hx
      obtain rfl := Option.some.inj hx
      refine ⟨w.heap.size, arr.size, by simp [updσ, hb], (BlkOk.cells_iff hm).2 ⟨arr, e, heap_alloc_new w _, rfl, hl, fun j sv hj => ?_, hel⟩⟩
      obtain ⟨v, h1, h2⟩ := hd j sv hj
      exact ⟨v, h1, h2.mono hle (.refl _)⟩
    · rw [if_neg hb] at hx
      obtain ⟨r, z, h1, h2⟩ := hI.blk b x hx
      exact ⟨r, z, hle _ _ h1, h2.mono hle (.refl _) (hold r (hI.base _ _ _ h1).2)⟩
  · intro b b' r z z' hb hb' h1 h2
    rw [upd_apply] at hb hb'
    unfold updσ at h1 h2
    by_cases e1 : b = i <;> by_cases e2 : b' = i
    · rw [e1, e2]
    · rw [if_pos e1] at h1; rw [if_neg e2] at h2; cases h1
      have := (hI.base _ _ _ h2).2; omega
    · rw [if_neg e1] at h1; rw [if_pos e2] at h2; cases h2
      have := (hI.base _ _ _ h1).2; omega
    · rw [if_neg e1] at h1 hb; rw [if_neg e2] at h2 hb'
      exact hI.inj _ _ _ _ _ hb hb' h1 h2
  · intro b r z h1
    unfold updσ at h1
    by_cases e1 : b = i
    · rw [if_pos e1] at h1; cases h1; exact ⟨hB, by omega⟩
    · rw [if_neg e1] at h1; have := hI.base _ _ _ h1; exact ⟨this.1, by omega⟩
  · intro b x r z n v hx h1 hc
    rw [upd_apply] at hx
    unfold updσ at h1
    by_cases e1 : b = i
    · rw [if_pos e1] at h1; cases h1; have := glt _ _ _ hc; omega
    · rw [if_neg e1] at h1 hx; exact hI.fz _ _ _ _ _ _ hx h1 hc
  · intro b x r z hx h1
    rw [upd_apply] at hx
    unfold updσ at h1
    by_cases e1 : b = i
    · rw [if_pos e1] at h1; cases h1
      cases hg : g.obj w.heap.size with
      | none => rfl
      | some es => have := gmlt _ _ hg; omega
    · rw [if_neg e1] at h1 hx; exact hI.fm _ _ _ _ hx h1
  · intro b p hb
    unfold updσ at hb
    by_cases e1 : b = i
    · right; omega
    · rw [if_neg e1] at hb; exact .inl hb
  · intro b r z h1 h2
    unfold updσ at h2
    by_cases e1 : b = i
    · rw [if_pos e1] at h2; cases h2; exact .inl (Nat.le_refl _)
    · rw [if_neg e1, h1] at h2; cases h2

/-- the cells of a value, one by one -/
theorem den_cells {σ : Pl} {g : GH} {sv : SV Y} {v : Value} (hd : Den E σ g sv v) (hl : leaves sv.cells = true) : sv.cells.length = v.cells.size ∧ (∀ (j : Nat) s, sv.cells[j]? = some s → ∃ u, v.cells[j]? = some u ∧ Den E σ g s u) := by
  by_cases ha : ∃ cs, sv = .agg cs
  · obtain ⟨cs, rfl⟩ := ha
    obtain ⟨arr, c, rfl, hs, hc, hd⟩ := den_agg hd
    exact ⟨hs.symm, fun j s hj => ⟨c j, hc j (List.getElem?_eq_some_iff.1 hj).1, hd j s hj⟩⟩
  · have hc : sv.cells = [sv] := by cases sv <;> first | rfl | exact absurd ⟨_, rfl⟩ ha
    rw [hc] at hl ⊢
    have hlf : leaf sv = true := by simp only [leaves] at hl; split at hl <;> first | assumption | cases hl
    have hv : v.cells = #[v] := by have := den_leaf hlf hd; cases v <;> first | rfl | cases this
    rw [hv]
    refine ⟨rfl, fun j s hj => ?_⟩
    cases j with
    | zero => obtain rfl : sv = s := by simpa using hj
              exact ⟨v, rfl, hd⟩
    | succ j => simp at hj
theorem leaves_mem {cs : List (SV Y)} (h : leaves cs = true) {j : Nat} {s : SV Y} (hj : cs[j]? = some s) : leaf s = true := by
  induction cs generalizing j with
  | nil => simp at hj
  | cons x r ih =>
    simp only [leaves] at h
    split at h
    · cases j with
      | zero => obtain rfl : x = s := by simpa using hj
                assumption
      | succ j => exact ih h (by simpa using hj)
    · cases h

theorem tri_new {rd : List Nat} {v : SV Y} {blk : Blk Y} (hm : ∀ es, blk ≠ .map es)
    (H : ∀ (σ : Pl) (g : GH) (w : World) (ρ : Operand → Value), (∀ x ∈ o.op.operands.toList, Den E σ g (ev T x) (ρ x)) →
      ∃ arr e u, (execOp ρ o).run E.P w = .ok (.value u) (w.alloc (.cells arr e)) ∧ ElOk E e blk ∧ (blk.cells E).length ≤ arr.size ∧ (∀ (j : Nat) sv, (blk.cells E)[j]? = some sv → ∃ v, arr[j]? = some v ∧ Den E σ g sv v) ∧
        ∀ σ', σ' i = some (w.heap.size, arr.size) → Den E σ' g v u) (hk : k (fresh i v blk rd)) : ∃ r, k r ∧ OpTri E o T h i r := by
  refine ⟨_, hk, fun b hb => by simp [fresh] at hb, ?_⟩
  intro B σ g w ρ hh hrd hI hB hfree hx
  obtain ⟨arr, e, u, hrun, hel, hl, hd, hv⟩ := H σ g w ρ hx
  obtain ⟨h1, h2⟩ := inv_alloc (i := i) hI hB (hfree i (Nat.le_refl _) (Nat.lt_succ_self _)) (arr := arr) (e := e) hm hel hl hd
  refine post_value hrun ⟨_, _, h2, ?_, hv _ (by simp [updσ])⟩
  rw [patch_fresh]; exact h1

theorem run_zero_ty (hE : EngOk E) {t : TypeId} {ti : TyI} (ht : E.ty t = some ti) (w : World) : (zeroValue t).run E.P w = .ok ti.zero w := by
  obtain ⟨_, info, h1, _, _, h4⟩ := hE.ty _ _ ht
  simp [zeroValue, typeInfo, h1, h4, go_sem]
theorem ofVal_cells (v : Value) : (ofVal v : SV Y).cells.length = v.cells.size ∧ ∀ (σ : Pl) (g : GH) (j : Nat) s, (ofVal v : SV Y).cells[j]? = some s → ∃ u, v.cells[j]? = some u ∧ Den E σ g s u := by
  by_cases ha : ∃ cs, v = .agg cs
  · obtain ⟨cs, rfl⟩ := ha
    refine ⟨by simp [ofVal, SV.cells, Value.cells], fun σ g j s hj => ?_⟩
    simp only [ofVal, SV.cells, List.getElem?_map] at hj
    obtain ⟨u, hu, rfl⟩ := Option.map_eq_some_iff.1 hj
    exact ⟨u, by simpa [Value.cells] using hu, den_ofLeaf E σ g u⟩
  · have h1 : (ofVal v : SV Y) = ofLeaf v := by cases v <;> first | rfl | exact absurd ⟨_, rfl⟩ ha
    have h2 : (ofLeaf v : SV Y).cells = [ofLeaf v] := by cases v <;> rfl
    have h3 : v.cells = #[v] := by cases v <;> first | rfl | exact absurd ⟨_, rfl⟩ ha
    rw [h1, h2, h3]
    refine ⟨rfl, fun σ g j s hj => ?_⟩
    cases j with
    | zero => obtain rfl : ofLeaf v = s := by simpa using hj
              exact ⟨v, rfl, den_ofLeaf E σ g v⟩
    | succ j => simp at hj

theorem alloc_ok (hE : EngOk E) {t : TypeId} (ho : o.op = .alloc t) (hk : step E call o.op T h i k) : ∃ r, k r ∧ OpTri E o T h i r := by
  rw [ho] at hk
  simp only [step, stPick, stAlloc, stBox, stNil, stConv, stMap, stExt, stLen, stMm, stApp, stCopy, stVal, stCall, stBuild, stBuildS, stFunc, stSlice] at hk
  split at hk
  · rename_i ti ht
    refine tri_new (by intro es e; cases e) (fun σ g w ρ hx => ?_) hk
    obtain ⟨h1, h2⟩ := ofVal_cells (E := E) ti.zero
    refine ⟨ti.zero.cells, t, .pointer (some ⟨w.heap.size, 0, none⟩), ?_, trivial, Nat.le_of_eq h1, fun j sv hj => h2 σ g j sv hj, fun σ' hσ => .ptr hσ⟩
    unfold execOp
    simp only [ho, Instr.alloc, Sem.run_bind, run_zero_ty hE ht, Result.andThen_ok, newVar, newRow, newObj, Sem.run, Sem.run_pure]
    rfl
  · exact hk.elim
theorem box_ok {t : TypeId} {x : Operand} (ho : o.op = .box t x) (hk : step E call o.op T h i k) : ∃ r, k r ∧ OpTri E o T h i r := by
  rw [ho] at hk
  simp only [step, stPick, stAlloc, stBox, stNil, stConv, stMap, stExt, stLen, stMm, stApp, stCopy, stVal, stCall, stBuild, stBuildS, stFunc, stSlice] at hk
  split at hk
  · rename_i hl
    refine tri_new (by intro es e; cases e) (fun σ g w ρ hx => ?_) hk
    obtain ⟨h1, h2⟩ := den_cells (hx x (by simp [ho, Op.operands])) hl
    refine ⟨(ρ x).cells, t, .pointer (some ⟨w.heap.size, 0, none⟩), ?_, trivial, Nat.le_of_eq h1, fun j sv hj => h2 j sv hj, fun σ' hσ => .ptr hσ⟩
    unfold execOp
    simp only [ho, Instr.box, Sem.run_bind, Result.andThen_ok, newVar, newRow, newObj, Sem.run, Sem.run_pure]
    rfl
  · exact hk.elim
end
end Go.Proofs.YtcaomfbcchemnaaDoor
