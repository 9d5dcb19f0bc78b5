/- A symbolic executor, part J: composites. -/
import Derived.Test.YtcaomfbcchemnaaDoorEngI
import Derived.Laws.Tables
namespace Go.Proofs.YtcaomfbcchemnaaDoor
open Go.RowKit
set_option linter.unusedVariables false

section
variable {Y : Thy} {E : Eng Y} {o : Oper} {T : Fr Y} {h : Hp Y} {i : Nat} {k : Res Y → Prop} {call : Nat → List (SV Y) → Hp Y → Nat → (Res Y → Prop) → Prop}

def DenA (E : Eng Y) (σ : Pl) (g : GH) (cs : List (SV Y)) (arr : Array Value) : Prop := cs.length = arr.size ∧ ∀ (j : Nat) s, cs[j]? = some s → ∃ u, arr[j]? = some u ∧ Den E σ g s u

theorem foldl_set (off : Nat) : ∀ (l : List Value) (n : Nat) (cells : Array Value), off + n + l.length ≤ cells.size →
    ((l.zipIdx n).foldl (fun cs p => cs.setIfInBounds (off + p.2) p.1) cells).size = cells.size ∧
    ∀ j, ((l.zipIdx n).foldl (fun cs p => cs.setIfInBounds (off + p.2) p.1) cells)[j]? = if off + n ≤ j ∧ j < off + n + l.length then l[j - (off + n)]? else cells[j]? := by
  intro l
  induction l with
  | nil => intro n cells _; refine ⟨rfl, fun j => ?_⟩; rw [if_neg (by rintro ⟨h1, h2⟩; simp at h2; omega)]; rfl
  | cons x l ih =>
    intro n cells hle
    simp only [List.length_cons] at hle
    obtain ⟨h1, h2⟩ := ih (n + 1) (cells.setIfInBounds (off + n) x) (by simp; omega)
    simp only [List.zipIdx_cons, List.foldl_cons]
    refine ⟨by rw [h1]; simp, fun j => ?_⟩
    rw [h2 j]
    simp only [List.length_cons]
    by_cases e : j = off + n
    · subst e
      rw [if_neg (by omega), if_pos (by omega), Array.getElem?_setIfInBounds, if_pos rfl, if_pos (by omega)]
      simp
    · by_cases c : off + (n + 1) ≤ j ∧ j < off + (n + 1) + l.length
      · rw [if_pos c, if_pos (by omega), show j - (off + n) = (j - (off + (n + 1))) + 1 by omega, List.getElem?_cons_succ]
      · rw [if_neg c, if_neg (by omega), Array.getElem?_setIfInBounds, if_neg (fun h => e h.symm)]

theorem sfill_den {σ : Pl} {g : GH} {place : Nat → Option (Nat × Nat)} : ∀ (parts : List (Nat × SV Y)) (vparts : List (Nat × Value)) (cells cs : List (SV Y)) (arr : Array Value), DenA E σ g cells arr →
    parts.length = vparts.length → (∀ (j : Nat) p q, parts[j]? = some p → vparts[j]? = some q → p.1 = q.1 ∧ Den E σ g p.2 q.2) → sfill place cells parts = some cs →
    ∃ arr', Instr.fill place arr vparts = some arr' ∧ DenA E σ g cs arr' := by
  intro parts
  induction parts with
  | nil =>
    intro vparts cells cs arr hA hl _ hf
    have : vparts = [] := by cases vparts <;> first | rfl | simp at hl
    subst this
    obtain rfl : cells = cs := by simpa [sfill] using hf
    exact ⟨arr, rfl, hA⟩
  | cons p parts ih =>
    intro vparts cells cs arr hA hl hP hf
    cases vparts with
    | nil => simp at hl
    | cons q vparts =>
      obtain ⟨n, sv⟩ := p
      obtain ⟨n', v⟩ := q
      obtain ⟨rfl, hd⟩ := hP 0 _ _ rfl rfl
      simp only [sfill] at hf
      split at hf
      · cases hf
      · rename_i off size hpl
        split at hf
        · rename_i hc
          simp only [Bool.and_eq_true, decide_eq_true_eq, Nat.ble_eq] at hc
          obtain ⟨⟨hs, hlv⟩, hle⟩ := hc
          obtain ⟨hc1, hc2⟩ := den_cells hd hlv
          have hc1 : sv.cells.length = v.cells.size := hc1
          have hA1 := hA.1
          have hb : off + 0 + v.cells.toList.length ≤ arr.size := by simp; omega
          obtain ⟨f1, f2⟩ := foldl_set off v.cells.toList 0 arr hb
          have hfe : (v.cells.zipIdx.foldl (fun cs (x : Value × Nat) => cs.setIfInBounds (off + x.2) x.1) arr) = ((v.cells.toList.zipIdx 0).foldl (fun cs p => cs.setIfInBounds (off + p.2) p.1) arr) := by
            rw [← Array.foldl_toList]; simp
          have hsp := splice_get cells sv.cells off (by omega)
          have hA' : DenA E σ g (splice cells off sv.cells) ((v.cells.toList.zipIdx 0).foldl (fun cs p => cs.setIfInBounds (off + p.2) p.1) arr) := by
            refine ⟨by rw [f1]; simp [splice]; omega, fun j s hj => ?_⟩
            simp only [splice] at hj
            rw [hsp] at hj
            rw [f2]
            by_cases q1 : j < off
            · rw [if_pos q1] at hj; rw [if_neg (by omega)]; exact hA.2 j s hj
            · rw [if_neg q1] at hj
              by_cases q2 : j < off + sv.cells.length
              · rw [if_pos q2] at hj
                obtain ⟨u, hu, hd⟩ := hc2 _ _ hj
                rw [if_pos (by simp; omega)]
                exact ⟨u, by simpa using hu, hd⟩
              · rw [if_neg q2] at hj
                rw [if_neg (by simp; omega)]
                exact hA.2 j s hj
          obtain ⟨arr', h1, h2⟩ := ih vparts _ cs _ hA' (by simpa using hl) (fun j p q h1 h2 => hP (j + 1) p q (by simpa using h1) (by simpa using h2)) hf
          refine ⟨arr', ?_, h2⟩
          simp only [Instr.fill, hpl]
          rw [if_neg (by simp; omega), hfe]
          exact h1
        · cases hf

theorem splaces_ok (hE : EngOk E) : ∀ (fs : List Field) (pl : List (Nat × Nat)), splaces E fs = some pl → fs.mapM (fun f => (E.P.info? f.type).map fun i => (f.offset, i.size)) = some pl := by
  intro fs
  induction fs with
  | nil => intro pl h; simp [splaces] at h; subst h; rfl
  | cons f r ih =>
    intro pl h
    simp only [splaces] at h
    split at h
    · rename_i ti l ht hl
      obtain rfl := Option.some.inj h
      have := ty_info hE ht
      obtain ⟨info, hi, hsz⟩ := Option.map_eq_some_iff.1 this
      simp only [List.mapM_cons, hi, ih _ hl, Option.map_some, hsz]
      rfl
    · cases h

theorem parts_den {σ : Pl} {g : GH} {ρ : Operand → Value} {parts : Array (Nat × Operand)} (hx : ∀ x ∈ (parts.toList.map (·.2)), Den E σ g (ev T x) (ρ x)) :
    (parts.toList.map fun p => (p.1, ev T p.2)).length = (parts.map fun (n, x) => (n, ρ x)).toList.length ∧ ∀ (j : Nat) p q, (parts.toList.map fun p => (p.1, ev T p.2))[j]? = some p → (parts.map fun (n, x) => (n, ρ x)).toList[j]? = some q → p.1 = q.1 ∧ Den E σ g p.2 q.2 := by
  refine ⟨by simp, fun j p q h1 h2 => ?_⟩
  rw [List.getElem?_map] at h1
  obtain ⟨y, hy, rfl⟩ := Option.map_eq_some_iff.1 h1
  simp only [Array.toList_map, List.getElem?_map, hy, Option.map_some, Option.some.injEq] at h2
  subst h2
  exact ⟨rfl, hx _ (List.mem_map_of_mem (List.mem_of_getElem? hy))⟩

theorem ofVal_denA {σ : Pl} {g : GH} (v : Value) : DenA E σ g (ofVal v).cells v.cells := by
  obtain ⟨h1, h2⟩ := ofVal_cells (E := E) v
  exact ⟨h1, fun j s hj => h2 σ g j s hj⟩
theorem denA_agg {σ : Pl} {g : GH} {cs : List (SV Y)} {arr : Array Value} (h : DenA E σ g cs arr) : Den E σ g (.agg cs) (.agg arr) := by
  refine .agg (fun j => arr.getD j undef) h.1.symm (fun j hj => ?_) (fun j s hj => ?_)
  · have : j < arr.size := by rw [← h.1]; exact hj
    simp [Array.getD, this]
  · obtain ⟨u, hu, hd⟩ := h.2 j s hj
    rw [Array.getD_eq_getD_getElem?, hu]; exact hd

theorem sbuild_ok (hE : EngOk E) {t : TypeId} {parts : Array (Nat × Operand)} (ho : o.op = .build t parts) (hk : sbuild E t (parts.toList.map fun p => (p.1, ev T p.2)) k) : ∃ r, k r ∧ OpTri E o T h i r := by
  have mx : ∀ x, x ∈ parts.toList.map (·.2) → x ∈ o.op.operands.toList := by intro x hx; simpa [ho, Op.operands] using hx
  unfold sbuild at hk
  split at hk
  · rename_i fs sz by_ z ht
    split at hk
    · rename_i pl hpl
      split at hk
      · rename_i cs hf
        refine ⟨_, hk, tri_quiet fun B σ g w ρ hh _ hI hx => ?_⟩
        obtain ⟨p1, p2⟩ := parts_den (E := E) (σ := σ) (g := g) (T := T) (ρ := ρ) (parts := parts) (fun x hm => hx x (mx x hm))
        obtain ⟨arr', h1, h2⟩ := sfill_den _ _ _ _ _ (ofVal_denA z) p1 p2 hf
        refine ⟨.agg arr', ?_, denA_agg h2⟩
        obtain ⟨hu, info, hi, _, _, hz⟩ := hE.ty _ _ ht
        have hb : E.P.built t (parts.map fun (n, x) => (n, ρ x)).toList = some arr' := by
          unfold Program.built
          rw [hi, hu]
          simp only [hz, splaces_ok hE _ _ hpl, List.getElem?_toArray]
          exact h1
        unfold execOp
        simp only [ho, Sem.run_bind, run_build w t _ arr' hb, Result.andThen_ok, Sem.run_pure]
      · exact hk.elim
    · exact hk.elim
  · rename_i n el sz by_ z ht
    split at hk
    · rename_i ti hel
      split at hk
      · rename_i cs hf
        refine ⟨_, hk, tri_quiet fun B σ g w ρ hh _ hI hx => ?_⟩
        obtain ⟨p1, p2⟩ := parts_den (E := E) (σ := σ) (g := g) (T := T) (ρ := ρ) (parts := parts) (fun x hm => hx x (mx x hm))
        obtain ⟨arr', h1, h2⟩ := sfill_den _ _ _ _ _ (ofVal_denA z) p1 p2 hf
        refine ⟨.agg arr', ?_, denA_agg h2⟩
        obtain ⟨hu, info, hi, _, _, hz⟩ := hE.ty _ _ ht
        obtain ⟨_, info', hi', hs', _⟩ := hE.ty _ _ hel
        have hb : E.P.built t (parts.map fun (n, x) => (n, ρ x)).toList = some arr' := by
          unfold Program.built
          rw [hi, hu]
          simp only [hz, hi', hs']
          exact h1
        unfold execOp
        simp only [ho, Sem.run_bind, run_build w t _ arr' hb, Result.andThen_ok, Sem.run_pure]
      · exact hk.elim
    · exact hk.elim
  · exact hk.elim

theorem rep_get {α : Type} {z : List α} {s : Nat} (hs : z.length = s) (h0 : 0 < s) : ∀ (n j : Nat), ((List.replicate n z).flatten)[j]? = if j < n * s then z[j % s]? else none := by
  intro n
  induction n with
  | zero => intro j; simp
  | succ n ih =>
    intro j
    rw [List.replicate_succ, List.flatten_cons]
    by_cases hj : j < s
    · rw [List.getElem?_append_left (by omega), Nat.mod_eq_of_lt hj, if_pos (by rw [Nat.add_mul]; omega)]
    · rw [List.getElem?_append_right (by omega), ih, hs, show j % s = (j - s) % s by rw [Nat.mod_eq_sub_mod (by omega)]]
      by_cases c : j - s < n * s
      · rw [if_pos c, if_pos (by rw [Nat.add_mul]; omega)]
      · rw [if_neg c, if_neg (by rw [Nat.add_mul]; omega)]

theorem tagOf_ok {el : TypeId} {cs : List (SV Y)} {fz : Nat} : ElOk E el (.raw cs fz (tagOf E el)) := by
  unfold tagOf
  split
  · split
    · rename_i h; exact (Nat.eq_of_beq_eq_true h).symm
    · trivial
  · trivial

theorem sbuildSlice_ok (hE : EngOk E) {t : TypeId} {len : Nat} {parts : Array (Nat × Operand)} (ho : o.op = .buildSlice t len parts) (hk : sbuildSlice E t len (parts.toList.map fun p => (p.1, ev T p.2)) i k) : ∃ r, k r ∧ OpTri E o T h i r := by
  have mx : ∀ x, x ∈ parts.toList.map (·.2) → x ∈ o.op.operands.toList := by intro x hx; simpa [ho, Op.operands] using hx
  unfold sbuildSlice at hk
  split at hk
  · rename_i el sz by_ z ht
    split at hk
    · rename_i ti hel
      split at hk
      · rename_i cs hc hf
        simp only [Bool.and_eq_true, Nat.ble_eq] at hc
        obtain ⟨⟨hsm, hlm⟩, h0, hzl⟩ := hc
        have h0 : 0 < ti.size := blt_lt h0
        have hzl : (ofVal ti.zero : SV Y).cells.length = ti.size := Nat.eq_of_beq_eq_true hzl
        have hzs : ti.zero.cells.size = ti.size := by rw [← (ofVal_cells (E := E) ti.zero).1]; exact hzl
        refine tri_new (by intro es e; cases e) (fun σ g w ρ hx => ?_) hk
        obtain ⟨p1, p2⟩ := parts_den (E := E) (σ := σ) (g := g) (T := T) (ρ := ρ) (parts := parts) (fun x hm => hx x (mx x hm))
        have hA : DenA E σ g ((List.replicate len (ofVal ti.zero : SV Y).cells).flatten) ((Array.range (len * ti.size)).map (ti.zero.cells[· % ti.zero.cells.size]!)) := by
          have hr := rep_get hzl h0 len
          refine ⟨?_, fun j s hj => ?_⟩
          · rw [Array.size_map, Array.size_range]
            simp [hzl]
          · rw [hr] at hj
            by_cases c : j < len * ti.size
            · rw [if_pos c] at hj
              obtain ⟨u, hu, hd⟩ := (ofVal_cells (E := E) ti.zero).2 σ g _ s hj
              refine ⟨u, ?_, hd⟩
              have hlt : j % ti.size < ti.zero.cells.size := by rw [hzs]; exact Nat.mod_lt _ h0
              rw [Array.getElem?_map, Array.getElem?_range, if_pos c, Option.map_some, hzs]
              have he : ti.zero.cells[j % ti.size]! = u := by simp [getElem!_def, hu]
              rw [he]
            · rw [if_neg c] at hj; cases hj
        obtain ⟨arr', h1, h2⟩ := sfill_den _ _ _ _ _ hA p1 p2 hf
        obtain ⟨hu, _⟩ := hE.ty _ _ ht
        obtain ⟨_, info', hi', hs', _, hz'⟩ := hE.ty _ _ hel
        have hA2 := h2.1
        have hlen : arr'.size = len * ti.size := by
          have : ∀ (ps : List (Nat × SV Y)) (cells cs : List (SV Y)) (pl : Nat → Option (Nat × Nat)), sfill pl cells ps = some cs → cs.length = cells.length := by
            intro ps
            induction ps with
            | nil => intro cells cs pl h; simp [sfill] at h; rw [h]
            | cons p ps ih =>
              intro cells cs pl h
              simp only [sfill] at h
              split at h
              · cases h
              · split at h
                · rename_i hcc
                  simp only [Bool.and_eq_true, Nat.ble_eq, decide_eq_true_eq] at hcc
                  rw [ih _ _ _ h]; simp [splice]; omega
                · cases h
          rw [← hA2, this _ _ _ _ hf, hA.1]; simp
        refine ⟨arr', el, .slice (some ⟨w.heap.size, 0, none⟩) len len, ?_, tagOf_ok, Nat.le_of_eq hA2, fun j s hj => h2.2 j s hj, fun σ' hσ => ?_⟩
        · unfold execOp
          simp only [ho, Sem.run_bind]
          by_cases hpos : len * info'.size = 0
          · have hl0 : len = 0 := by
              rw [hs'] at hpos
              rcases Nat.mul_eq_zero.1 hpos with h | h <;> omega
            have hrun : (Instr.buildSlice t len (parts.map fun (n, x) => (n, ρ x))).run E.P w = .ok (.slice (some ⟨w.heap.size, 0, none⟩) len len) (w.alloc (.cells arr' el)) := by
              subst hl0
              have e0 : ∀ f : Nat → Value, Array.map f (Array.range 0) = #[] := fun f => by apply Array.ext'; simp
              simp [e0] at h1
              simp [e0, Instr.buildSlice, run_underlying hu, sizeOf, typeInfo, hi', h1, hs', newRow]
            rw [hrun]; rfl
          · rw [run_buildSlice w t el len _ arr' info' ti.zero hu hi' hz' (by rw [hs']; omega) hpos (by rw [hs']; exact h1)]; rfl
        · have := Den.sl (E := E) (g := g) (b := i) (off := 0) (len := len) (w := ti.size) (c := len) (cap := some len) hσ (by rw [hlen]; simp) (Nat.le_refl _) (by unfold maxLen; omega) (by intro m e; cases e; rfl)
          simpa using this
      · exact hk.elim
    · exact hk.elim
  · exact hk.elim
end
end Go.Proofs.YtcaomfbcchemnaaDoor
