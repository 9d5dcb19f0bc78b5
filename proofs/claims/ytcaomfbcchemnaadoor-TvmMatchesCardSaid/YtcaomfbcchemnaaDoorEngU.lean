/- A symbolic executor, part U: new maps, changed maps. -/
import Derived.Test.YtcaomfbcchemnaaDoorEngS
namespace Go.Proofs.YtcaomfbcchemnaaDoor
open Go.RowKit
set_option linter.unusedVariables false

section
variable {Y : Thy} {E : Eng Y} {o : Oper} {T : Fr Y} {h : Hp Y} {i : Nat} {k : Res Y → Prop} {call : Nat → List (SV Y) → Hp Y → Nat → (Res Y → Prop) → Prop}

def setB (w : World) (r : Nat) (x : Obj) : World := { w with heap := w.heap.setIfInBounds r x }
theorem setB_same (w : World) (r : Nat) (x : Obj) (h : r < w.heap.size) : (setB w r x).heap[r]? = some x := by simp [setB, Array.getElem?_setIfInBounds, h]
theorem setB_other (w : World) (r q : Nat) (x : Obj) (h : q ≠ r) : (setB w r x).heap[q]? = w.heap[q]? := by simp [setB, Array.getElem?_setIfInBounds, Ne.symm h]
theorem setB_size (w : World) (r : Nat) (x : Obj) : (setB w r x).heap.size = w.heap.size := by simp [setB]
theorem run_setObj_of {P : Program} (w : World) (r : Nat) (es : Array MapEntry) (c : Nat) (x : Obj) (hg : w.heap[r]? = some (.map es c)) : (setObj r x).run P w = .ok () (setB w r x) := by
  simp only [setObj, Sem.run, hg]; rfl

/-- a new object of whatever kind -/
theorem inv_allocO {B : Nat} {σ : Pl} {g : GH} {w : World} {hh : Hp Y} (hI : Inv E B σ hh g w) (hB : B ≤ w.heap.size) (hi : σ i = none) {x : Obj} {z : Nat} {blk : Blk Y}
    (hbo : BlkOk E (updσ σ i (w.heap.size, z)) g (w.alloc x) w.heap.size z blk) :
    Inv E B (updσ σ i (w.heap.size, z)) (upd hh i (some blk)) g (w.alloc x) ∧ Stp i 1 [] σ g w (updσ σ i (w.heap.size, z)) g (w.alloc x) := by
  have hle : Pl.le σ (updσ σ i (w.heap.size, z)) := updσ_le hi
  have hold : ∀ r, r < w.heap.size → (w.alloc x).heap[r]? = w.heap[r]? := fun r hr => by first | exact heap_alloc_old w _ hr | exact heap_alloc_old w _ r hr
  have hsz : (w.alloc x).heap.size = w.heap.size + 1 := by show (w.heap.push _).size = _; simp
  have glt : ∀ r n v, g.cell r n = some v → r < w.heap.size := fun r n v hc => block_lt_of_cell (hI.gc r n v hc)
  have gmlt : ∀ r es, g.obj r = some es → r < w.heap.size := fun r es hc => by obtain ⟨c, h⟩ := hI.gm r es hc; exact (Array.getElem?_eq_some_iff.1 h).1
  refine ⟨⟨?_, ?_, ?_, ?_, ?_, ?_, ?_, hI.glob⟩, ⟨hle, ?_, .refl _, fun _ _ _ h => .inl h, fun _ _ h => .inl h, fun r hr _ => hold r hr, by omega, rfl, rfl, rfl, ?_⟩⟩
  · intro r n v hc
    rw [World.cell?_of_block (w := w) (hold r (glt _ _ _ hc))]; exact hI.gc _ _ _ hc
  · intro r es hc
    obtain ⟨c, h⟩ := hI.gm r es hc
    exact ⟨c, (hold r (gmlt _ _ hc)).trans h⟩
  · intro b y hx
    rw [upd_apply] at hx
    by_cases hb : b = i
    · rw [if_pos hb] at hx
      obtain rfl := Option.some.inj hx
      exact ⟨w.heap.size, z, by simp [updσ, hb], hbo⟩
    · rw [if_neg hb] at hx
      obtain ⟨r, z', h1, h2⟩ := hI.blk b y hx
      exact ⟨r, z', hle _ _ h1, h2.mono hle (.refl _) (hold r (hI.base _ _ _ h1).2)⟩
  · intro b b' r z z' hb hb' h1 h2
    rw [upd_apply] at hb hb'
    unfold updσ at h1 h2
    by_cases e1 : b = i <;> by_cases e2 : b' = i
    · rw [e1, e2]
    · rw [if_pos e1] at h1; rw [if_neg e2] at h2; cases h1
      have := (hI.base _ _ _ h2).2; omega
    · rw [if_neg e1] at h1; rw [if_pos e2] at h2; cases h2
      have := (hI.base _ _ _ h1).2; omega
    · rw [if_neg e1] at h1 hb; rw [if_neg e2] at h2 hb'
      exact hI.inj _ _ _ _ _ hb hb' h1 h2
  · intro b r z h1
    unfold updσ at h1
    by_cases e1 : b = i
    · rw [if_pos e1] at h1; cases h1; exact ⟨hB, by omega⟩
    · rw [if_neg e1] at h1; have := hI.base _ _ _ h1; exact ⟨this.1, by omega⟩
  · intro b y r z n v hx h1 hc
    rw [upd_apply] at hx
    unfold updσ at h1
    by_cases e1 : b = i
    · rw [if_pos e1] at h1; cases h1; have := glt _ _ _ hc; omega
    · rw [if_neg e1] at h1 hx; exact hI.fz _ _ _ _ _ _ hx h1 hc
  · intro b y r z hx h1
    rw [upd_apply] at hx
    unfold updσ at h1
    by_cases e1 : b = i
    · rw [if_pos e1] at h1; cases h1
      cases hg : g.obj w.heap.size with
      | none => rfl
      | some es => have := gmlt _ _ hg; omega
    · rw [if_neg e1] at h1 hx; exact hI.fm _ _ _ _ hx h1
  · intro b p hb
    unfold updσ at hb
    by_cases e1 : b = i
    · right; omega
    · rw [if_neg e1] at hb; exact .inl hb
  · intro b r z h1 h2
    unfold updσ at h2
    by_cases e1 : b = i
    · rw [if_pos e1] at h2; cases h2; exact .inl (Nat.le_refl _)
    · rw [if_neg e1, h1] at h2; cases h2


theorem inv_setmap {B : Nat} {σ : Pl} {g : GH} {w : World} {hh : Hp Y} (hI : Inv E B σ hh g w) {b r z : Nat} {es es' : List (Value × SV Y)} (hb : hh b = some (.map es)) (hσ : σ b = some (r, z)) {ents ents' : Array MapEntry} {c c' : Nat} (ha : w.heap[r]? = some (.map ents c))
    (hs : ents'.size = es'.length) (hd : ∀ (j : Nat) kv sv, es'[j]? = some (kv, sv) → ∃ v bo, ents'[j]? = some (MapEntry.mk kv v bo) ∧ Den E σ g sv v) :
    Inv E B σ (upd hh b (some (.map es'))) g (setB w r (.map ents' c')) ∧ Stp i 0 [b] σ g w σ g (setB w r (.map ents' c')) := by
  have hother : ∀ q, q ≠ r → (setB w r (.map ents' c')).heap[q]? = w.heap[q]? := fun q hq => setB_other w r q _ hq
  have hlt : r < w.heap.size := (Array.getElem?_eq_some_iff.1 ha).1
  have hne : ∀ b' r' z', hh b' ≠ none → σ b' = some (r', z') → b' ≠ b → r' ≠ r := by
    intro b' r' z' h1 h2 h3 e
    subst e
    exact h3 (hI.inj _ _ _ _ _ h1 (by rw [hb]; simp) h2 hσ)
  refine ⟨⟨?_, ?_, ?_, ?_, ?_, ?_, ?_, hI.glob⟩, ⟨.refl _, fun b p h => .inl h, .refl _, fun _ _ _ h => .inl h, fun _ _ h => .inl h, fun q hq hq2 => hother q fun e => hq2 b (by simp) z (e ▸ hσ), by rw [setB_size]; exact Nat.le_refl _, rfl, rfl, rfl, fun b' r' z' h1 h2 => by rw [h1] at h2; cases h2⟩⟩
  · intro q n v hc
    have hc' := hI.gc _ _ _ hc
    have : q ≠ r := by rintro rfl; simp [World.cell?, ha] at hc'
    rw [World.cell?_of_block (w := w) (hother q this)]; exact hc'
  · intro q es hc
    obtain ⟨c, h⟩ := hI.gm _ _ hc
    have : q ≠ r := by rintro rfl; rw [hI.fm _ _ _ _ hb hσ] at hc; cases hc
    exact ⟨c, (hother q this).trans h⟩
  · intro b' x hx
    rw [upd_apply] at hx
    by_cases e1 : b' = b
    · rw [if_pos e1] at hx
      obtain rfl := Option.some.inj hx
      subst e1
      exact ⟨r, z, hσ, ents', c', setB_same w r _ hlt, hs, hd⟩
    · rw [if_neg e1] at hx
      obtain ⟨r', z', h1, h2⟩ := hI.blk _ _ hx
      exact ⟨r', z', h1, h2.mono (.refl _) (.refl _) (hother _ (hne _ _ _ (by rw [hx]; simp) h1 e1))⟩
  · intro b1 b2 r' z1 z2 h1 h2 k1 k2
    rw [upd_apply] at h1 h2
    have q1 : hh b1 ≠ none := by by_cases e : b1 = b; · rw [e, hb]; simp
                                 · rw [if_neg e] at h1; exact h1
    have q2 : hh b2 ≠ none := by by_cases e : b2 = b; · rw [e, hb]; simp
                                 · rw [if_neg e] at h2; exact h2
    exact hI.inj _ _ _ _ _ q1 q2 k1 k2
  · intro b' r' z' h1
    have := hI.base _ _ _ h1
    exact ⟨this.1, by rw [setB_size]; exact this.2⟩
  · intro b' x r' z' n v hx h1 hc
    rw [upd_apply] at hx
    by_cases e1 : b' = b
    · rw [if_pos e1] at hx
      obtain rfl := Option.some.inj hx
      subst e1
      have : n < (Blk.map es : Blk Y).fzc E := hI.fz _ _ _ _ _ _ hb h1 hc
      exact this
    · rw [if_neg e1] at hx; exact hI.fz _ _ _ _ _ _ hx h1 hc
  · intro b' x r' z' hx h1
    rw [upd_apply] at hx
    by_cases e1 : b' = b
    · subst e1; exact hI.fm _ _ _ _ hb h1
    · rw [if_neg e1] at hx; exact hI.fm _ _ _ _ hx h1

theorem keys_same {ki : Bool} {d : TypeDesc} (hd : kindD ki d) {a b : Value} (h : Instr.sameNow d a b = some true) : a = b ∧ Instr.sameBits 10000 b a = true := by
  cases ki with
  | true =>
    obtain ⟨q, rfl⟩ := hd
    cases a with
    | int kd x =>
      cases b with
      | int kd' y =>
        simp only [Instr.sameNow] at h
        split at h
        · rename_i e
          simp only [Option.some.injEq, beq_iff_eq] at h
          subst h; subst e
          exact ⟨rfl, by simp [Instr.sameBits]⟩
        · cases h
      | _ => simp [Instr.sameNow] at h
    | _ => simp [Instr.sameNow] at h
  | false =>
    obtain rfl := hd
    cases a with
    | string x =>
      cases b with
      | string y =>
        simp only [Instr.sameNow, Option.some.injEq] at h
        have h' : (x.data == y.data) = true := h
        rw [beq_iff_eq] at h'
        refine ⟨by rw [ByteArray.ext h'], ?_⟩
        show (y.data == x.data) = true
        rw [beq_iff_eq]; exact h'.symm
      | _ => simp [Instr.sameNow] at h
    | _ => simp [Instr.sameNow] at h
theorem keyVal_den {σ : Pl} {g : GH} {ki : Bool} {sv : SV Y} {kv u : Value} (hk : keyVal ki sv = some kv) (hd : Den E σ g sv u) : u = kv := by
  unfold keyVal at hk
  split at hk
  · split at hk
    · cases hk; cases hd; rfl
    · cases hk
  · split at hk
    · cases hk; cases hd; rfl
    · cases hk
  · cases hk

theorem sput_ok (hE : EngOk E) {t : TypeId} {m x v : Operand} (ho : o.op = .mapUpdate t m x v ∨ o.op = .insert t m x v) (hk : sput E t (ev T m) (ev T x) (ev T v) h k) : ∃ r, k r ∧ OpTri E o T h i r := by
  have mm : m ∈ o.op.operands.toList := by rcases ho with ho | ho <;> simp [ho, Op.operands]
  have mx : x ∈ o.op.operands.toList := by rcases ho with ho | ho <;> simp [ho, Op.operands]
  have mv : v ∈ o.op.operands.toList := by rcases ho with ho | ho <;> simp [ho, Op.operands]
  unfold sput at hk
  split at hk
  · rename_i kt _ _ _ _ b ht hm
    split at hk
    · rename_i ki es hki hb
      split at hk
      · rename_i kv hkv
        split at hk
        · rename_i es' hput
          obtain ⟨d, hkt, hd⟩ := keyKind_desc hE hki
          refine ⟨_, hk, fun b' hb' => by (simp [change] at hb'; subst hb'; rw [hb]; simp), ?_⟩
          intro B σ g w ρ hh hrd hI hB hfree hx
          have hb' : hh b = some (.map es) := (hrd b (by simp [Rd, change])).trans hb
          have h1 := hx m mm
          rw [hm] at h1
          generalize hvm : ρ m = vm at h1
          cases h1
          rename_i r z hσ
          have hvx : ρ x = kv := keyVal_den hkv (hx x mx)
          have hdv := hx v mv
          obtain ⟨r2, z2, hσ2, hbo⟩ := hI.blk _ _ hb'
          rw [hσ] at hσ2; cases hσ2
          obtain ⟨ents, c, ha, hsz, hen⟩ := hbo
          have hek : EntsK es ents.toList := ⟨by simpa using hsz, fun j kv sv hj => by
            obtain ⟨v, bo, h4, _⟩ := hen j kv sv hj
            exact ⟨_, by simpa using h4, rfl⟩⟩
          have run : ∀ (ents' : Array MapEntry) (c' : Nat), (Instr.mapUpdate t (.map (some r)) kv (ρ v)).run E.P w = .ok () (setB w r (.map ents' c')) → (execOp ρ o).run E.P w = .ok .skip (setB w r (.map ents' c')) := by
            intro ents' c' hr
            unfold execOp
            rcases ho with ho | ho <;> simp only [ho, hvm, hvx, Sem.run_bind, hr, Result.andThen_ok, Sem.run_pure]
          rcases smPut_ok hd hput ents.toList 0 hek with ⟨hf, rfl⟩ | ⟨j, e, sv, hj, hf, hes, rfl, hsame⟩
          · obtain ⟨h1, h2⟩ := inv_setmap (i := i) hI hb' hσ ha (ents' := ents.push { key := kv, val := ρ v, born := c }) (c' := c + 1) (es' := es ++ [(kv, ev T v)]) (by simp [hsz]) (by
              intro j kv' sv' hj
              rw [Array.getElem?_push]
              by_cases q : j = ents.size
              · subst q
                rw [hsz, List.getElem?_append_right (Nat.le_refl _), Nat.sub_self] at hj
                simp only [List.getElem?_cons_zero, Option.some.injEq, Prod.mk.injEq] at hj
                obtain ⟨rfl, rfl⟩ := hj
                rw [if_pos rfl]
                exact ⟨_, _, rfl, hdv⟩
              · rw [if_neg q]
                have : j < es.length := by
                  have := (List.getElem?_eq_some_iff.1 hj).1
                  simp at this; omega
                rw [List.getElem?_append_left this] at hj
                exact hen j kv' sv' hj)
            refine post_skip (run _ (c + 1) ?_) ⟨σ, g, h2, by rw [patch_change]; exact h1, .unk _⟩
            unfold Instr.mapUpdate
            simp only [Sem.run_bind, run_underlying (hE.ty _ _ ht).1, Result.andThen_ok, run_getObj_of w r ents c ha, run_checkKey_kind hd _ 9999 kt _ w hkt, run_findKey_now w hkt hf, run_setObj_of w r ents c _ ha]
          · have hje : ents[j]? = some e := by simpa using hj
            obtain ⟨h1, h2⟩ := inv_setmap (i := i) hI hb' hσ ha (ents' := ents.modify j fun e => { e with key := kv, val := ρ v }) (c' := c) (es' := es.set j (e.key, ev T v)) (by simp [hsz]) (by
              intro j' kv' sv' hj'
              rw [Array.getElem?_modify]
              rw [List.getElem?_set] at hj'
              by_cases q : j = j'
              · subst q
                have : j < es.length := (List.getElem?_eq_some_iff.1 hes).1
                rw [if_pos rfl, if_pos this] at hj'
                simp only [Option.some.injEq, Prod.mk.injEq] at hj'
                obtain ⟨rfl, rfl⟩ := hj'
                rw [if_pos rfl, hje]
                exact ⟨ρ v, e.born, by rw [(keys_same hd hsame).1]; rfl, hdv⟩
              · rw [if_neg q] at hj' ⊢
                exact hen j' kv' sv' hj')
            refine post_skip (run _ c ?_) ⟨σ, g, h2, by rw [patch_change]; exact h1, .unk _⟩
            unfold Instr.mapUpdate
            have hsb := (keys_same hd hsame).2
            simp only [Sem.run_bind, run_underlying (hE.ty _ _ ht).1, Result.andThen_ok, run_getObj_of w r ents c ha, run_checkKey_kind hd _ 9999 kt _ w hkt, run_findKey_now w hkt hf, Nat.zero_add, hje, Option.map_some, Option.getD_some, Instr.keyThatStays, hsb, if_true, Sem.run_pure, run_setObj_of w r ents c _ ha]
        · exact hk.elim
      · exact hk.elim
    · exact hk.elim
  · exact hk.elim

theorem makeMap_ok (hE : EngOk E) {t : TypeId} (ho : o.op = .makeMap t none) (hk : k (fresh i (.map i) (.map []) [])) : ∃ r, k r ∧ OpTri E o T h i r := by
  refine ⟨_, hk, fun b hb => by simp [fresh] at hb, ?_⟩
  intro B σ g w ρ hh hrd hI hB hfree hx
  have hi : σ i = none := hfree i (Nat.le_refl _) (Nat.lt_succ_self _)
  obtain ⟨h1, h2⟩ := inv_allocO (i := i) hI hB hi (x := .map #[] 0) (z := 0) (blk := .map []) ⟨#[], 0, heap_alloc_new w _, rfl, fun j kv sv hj => by simp at hj⟩
  have hrun : (execOp ρ o).run E.P w = .ok (.value (.map (some w.heap.size))) (w.alloc (.map #[] 0)) := by
    unfold execOp
    simp only [ho, Instr.makeMap, Option.map_none, Sem.run_bind, Sem.run_pure, Result.andThen_ok, newObj, Sem.run]
    rfl
  refine post_value hrun ⟨_, _, h2, ?_, .map (r := w.heap.size) (z := 0) (by simp [updσ])⟩
  rw [patch_fresh]; exact h1
end
end Go.Proofs.YtcaomfbcchemnaaDoor
