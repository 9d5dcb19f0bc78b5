/- A symbolic executor, part Q: append is sound. -/
import Derived.Test.YtcaomfbcchemnaaDoorEngP
import Derived.Test.YtcaomfbcchemnaaDoorEngK
namespace Go.Proofs.YtcaomfbcchemnaaDoor
open Go.RowKit
set_option linter.unusedVariables false

section
variable {Y : Thy} {E : Eng Y} {o : Oper} {T : Fr Y} {h : Hp Y} {i : Nat} {k : Res Y → Prop}

theorem Stp.weaken' {i n : Nat} {m m' : List Nat} {σ σ1 : Pl} {g g1 : GH} {w w1 : World} (h : Stp i n m σ g w σ1 g1 w1) (hm : ∀ b ∈ m, b ∈ m') : Stp i n m' σ g w σ1 g1 w1 :=
  ⟨h.sig, h.snew, h.gle, fun r o v hv => (h.gcnew r o v hv).imp id (Or.imp id fun ⟨b, h1, z, h2⟩ => ⟨b, hm b h1, z, h2⟩), h.gmnew, fun r hr hx => h.heap r hr fun b hb => hx b (hm b hb), h.size, h.os, h.tape, h.output, fun b r z h1 h2 => (h.blk b r z h1 h2).imp id fun ⟨b', h1, z', h2⟩ => ⟨b', hm b' h1, z', h2⟩⟩
theorem inv_drew {B : Nat} {σ : Pl} {g : GH} {w : World} {h : Hp Y} (hI : Inv E B σ h g w) : Inv E B σ h g w.drew := ⟨hI.gc, hI.gm, hI.blk, hI.inj, hI.base, hI.fz, hI.fm, hI.glob⟩
theorem stp_drew {i n : Nat} {m : List Nat} {σ σ' : Pl} {g g' : GH} {w w' : World} (h : Stp i n m σ g w.drew σ' g' w') : Stp i n m σ g w σ' g' w' := ⟨h.sig, h.snew, h.gle, h.gcnew, h.gmnew, h.heap, h.size, h.os, h.tape, h.output, h.blk⟩
theorem inv_sub {B : Nat} {σ : Pl} {h h' : Hp Y} {g : GH} {w : World} (hI : Inv E B σ h g w) (hs : ∀ b x, h' b = some x → h b = some x) : Inv E B σ h' g w := by
  have ne : ∀ b, h' b ≠ none → h b ≠ none := fun b hb => by
    obtain ⟨x, hx⟩ := Option.ne_none_iff_exists'.1 hb
    rw [hs b x hx]; simp
  exact ⟨hI.gc, hI.gm, fun b x hx => hI.blk b x (hs b x hx), fun b b' r z z' h1 h2 => hI.inj b b' r z z' (ne b h1) (ne b' h2), hI.base, fun b x r z o v hx => hI.fz b x r z o v (hs b x hx), fun b x r z hx => hI.fm b x r z (hs b x hx), hI.glob⟩
theorem inv_rename {B : Nat} {σ : Pl} {h : Hp Y} {g : GH} {w : World} (hI : Inv E B σ h g w) {b i r z : Nat} {x : Blk Y} (hb : h b = some x) (hσ : σ b = some (r, z)) (hi : σ i = none) : Inv E B (updσ σ i (r, z)) (upd (upd h b none) i (some x)) g w := by
  have hle := updσ_le (p := (r, z)) hi
  have hne : b ≠ i := by rintro rfl; rw [hi] at hσ; cases hσ
  have at_ : ∀ c y, upd (upd h b none) i (some x) c = some y → (c = i ∧ y = x) ∨ (c ≠ i ∧ c ≠ b ∧ h c = some y) := by
    intro c y hc
    rw [upd_apply] at hc
    by_cases e : c = i
    · rw [if_pos e] at hc; exact .inl ⟨e, (Option.some.inj hc).symm⟩
    · rw [if_neg e, upd_apply] at hc
      by_cases e2 : c = b
      · rw [if_pos e2] at hc; cases hc
      · rw [if_neg e2] at hc; exact .inr ⟨e, e2, hc⟩
  have σi : updσ σ i (r, z) i = some (r, z) := by simp [updσ]
  have σn : ∀ c, c ≠ i → updσ σ i (r, z) c = σ c := fun c hc => by simp [updσ, hc]
  refine ⟨hI.gc, hI.gm, ?_, ?_, ?_, ?_, ?_, hI.glob⟩
  · intro c y hc
    rcases at_ c y hc with ⟨rfl, rfl⟩ | ⟨h1, h2, h3⟩
    · obtain ⟨r', z', q1, q2⟩ := hI.blk b y hb
      rw [hσ] at q1; cases q1
      exact ⟨r, z, σi, q2.mono hle (.refl _) rfl⟩
    · obtain ⟨r', z', q1, q2⟩ := hI.blk c y h3
      exact ⟨r', z', hle _ _ q1, q2.mono hle (.refl _) rfl⟩
  · intro c c' q z1 z2 h1 h2 s1 s2
    obtain ⟨y1, hy1⟩ := Option.ne_none_iff_exists'.1 h1
    obtain ⟨y2, hy2⟩ := Option.ne_none_iff_exists'.1 h2
    rcases at_ c y1 hy1 with ⟨rfl, _⟩ | ⟨a1, a2, a3⟩ <;> rcases at_ c' y2 hy2 with ⟨rfl, _⟩ | ⟨b1, b2, b3⟩
    · rfl
    · rw [σi] at s1; cases s1; rw [σn _ b1] at s2
      exact absurd (hI.inj _ _ _ _ _ (by rw [b3]; simp) (by rw [hb]; simp) s2 hσ) b2
    · rw [σi] at s2; cases s2; rw [σn _ a1] at s1
      exact absurd (hI.inj _ _ _ _ _ (by rw [a3]; simp) (by rw [hb]; simp) s1 hσ) a2
    · rw [σn _ a1] at s1; rw [σn _ b1] at s2
      exact hI.inj _ _ _ _ _ (by rw [a3]; simp) (by rw [b3]; simp) s1 s2
  · intro c r' z' hc
    by_cases e : c = i
    · subst e; rw [σi] at hc; cases hc; exact hI.base _ _ _ hσ
    · rw [σn _ e] at hc; exact hI.base _ _ _ hc
  · intro c y r' z' n v hc hs hg
    rcases at_ c y hc with ⟨rfl, rfl⟩ | ⟨h1, h2, h3⟩
    · rw [σi] at hs; cases hs; exact hI.fz _ _ _ _ _ _ hb hσ hg
    · rw [σn _ h1] at hs; exact hI.fz _ _ _ _ _ _ h3 hs hg
  · intro c y r' z' hc hs
    rcases at_ c y hc with ⟨rfl, rfl⟩ | ⟨h1, h2, h3⟩
    · rw [σi] at hs; cases hs; exact hI.fm _ _ _ _ hb hσ
    · rw [σn _ h1] at hs; exact hI.fm _ _ _ _ h3 hs

theorem flat_leaf (hE : EngOk E) (th : Y.Th) (l : List (Y.dom th)) {j : Nat} {sv : SV Y} (h : (l.flatMap (E.enc th))[j]? = some sv) : leaf sv = true := by
  obtain ⟨q, p, x, _, _, _, hs⟩ := flat_inv hE th l h
  exact leaves_mem (hE.leaf th x) hs

theorem append_den {th : Y.Th} (hE : EngOk E) {σ : Pl} {g : GH} {l1 l2 : List (Y.dom th)} {us1 us2 : List Value} (h1 : us1.length = l1.length * E.w th) (d1 : ∀ (j : Nat) sv u, (l1.flatMap (E.enc th))[j]? = some sv → us1[j]? = some u → Den E σ g sv u)
    (h2 : us2.length = l2.length * E.w th) (d2 : ∀ (j : Nat) sv u, (l2.flatMap (E.enc th))[j]? = some sv → us2[j]? = some u → Den E σ g sv u) {j : Nat} {sv : SV Y} (hj : ((l1 ++ l2).flatMap (E.enc th))[j]? = some sv) : ∃ u, (us1 ++ us2)[j]? = some u ∧ Den E σ g sv u := by
  rw [List.flatMap_append] at hj
  by_cases e : j < l1.length * E.w th
  · rw [List.getElem?_append_left (by rw [flat_len hE]; exact e)] at hj
    rw [List.getElem?_append_left (by omega)]
    exact ⟨_, List.getElem?_eq_getElem (by omega), d1 j sv _ hj (List.getElem?_eq_getElem (by omega))⟩
  · rw [List.getElem?_append_right (by rw [flat_len hE]; omega), flat_len hE] at hj
    rw [List.getElem?_append_right (by omega), h1]
    have hlt := (List.getElem?_eq_some_iff.1 hj).1
    rw [flat_len hE] at hlt
    exact ⟨_, List.getElem?_eq_getElem (by omega), d2 _ sv _ hj (List.getElem?_eq_getElem (by omega))⟩

theorem sliceForm_val {v : Value} (hs : sliceForm (.val v : SV Y) = true) : v = .slice none 0 0 := by
  unfold sliceForm at hs
  split at hs <;> simp_all
theorem slice_form {σ : Pl} {g : GH} {x : SV Y} {v : Value} (hs : sliceForm x = true) (h : Den E σ g x v) : ∃ base n c, v = .slice base n c ∧ n ≤ c := by
  cases x with
  | val u => have := sliceForm_val hs; subst this; cases h; exact ⟨none, 0, 0, rfl, Nat.le_refl _⟩
  | psl th l f => obtain ⟨base, c, cv, e, hl, _⟩ := den_psl h; exact ⟨_, _, _, e, hl⟩
  | sl b off len w cap => obtain ⟨r, z, c, e, _, _, hl, _⟩ := den_sl h; exact ⟨_, _, _, e, hl⟩
  | _ => simp [sliceForm] at hs

theorem run_append_zero {P : Program} {t ty el : TypeId} {info : TypeInfo} (ht : P.underlying t = some (.slice el)) (hi : P.info? el = some info) {b1 b2 : Option Addr} {n1 c1 c2 : Nat} (hle : n1 ≤ c1) {w : World} : (Builtin.append_ #[t, t] ty #[.slice b1 n1 c1, .slice b2 0 c2]).run P w = .ok (.slice b1 n1 c1) w := by
  cases b1 <;> cases b2 <;> simp [Builtin.append_, run_underlying ht, sizeOf, typeInfo, hi, Builtin.lenOf, Builtin.firstCells, loadCells, loadCellsFrom, storeCells, hle]

theorem patch_consume (h : Hp Y) (i b : Nat) (x : Blk Y) (v : SV Y) (rd : Option (List Nat)) (hne : b ≠ i) : patch h i ⟨v, 1, [b], at1 i (some x), rd⟩ = upd (upd h b none) i (some x) := by
  funext j
  rw [patch_eq, upd_apply, upd_apply]
  by_cases e : j = i
  · subst e
    rw [if_pos (by right; simp), if_pos rfl]; simp [at1]
  · have : Nat.beq j i = false := by rw [← Bool.not_eq_true, Nat.beq_eq]; exact e
    rw [if_neg e]
    by_cases e2 : j = b
    · rw [if_pos (by left; simp [e2]), if_pos e2]; simp [at1, this]
    · rw [if_neg (by rintro (h1 | h1); · simp at h1; exact e2 h1
                     · simp at h1; omega), if_neg e2]

theorem sappend_ok (hE : EngOk E) {c : Call} (hc : c.callee = .builtin .append) (ho : o.op = .call c) {t : TypeId} {x y : Operand} (ha : c.args.toList = [x, y]) (hat : c.argTypes.toList = [t, t]) (hk : sappend E t (ev T x) (ev T y) h i k) : ∃ r, k r ∧ OpTri E o T h i r := by
  have mx : x ∈ o.op.operands.toList := by
    have : x ∈ c.args.toList := by rw [ha]; simp
    simp [ho, Op.operands, Call.operands, hc]; simpa using this
  have my : y ∈ o.op.operands.toList := by
    have : y ∈ c.args.toList := by rw [ha]; simp
    simp [ho, Op.operands, Call.operands, hc]; simpa using this
  have haa : c.args = #[x, y] := by rw [← Array.toArray_toList (xs := c.args), ha]
  have hta : c.argTypes = #[t, t] := by rw [← Array.toArray_toList (xs := c.argTypes), hat]
  have run : ∀ (w w' : World) (ρ : Operand → Value) (u : Value), (Builtin.append_ #[t, t] o.type #[ρ x, ρ y]).run E.P w = .ok u w' → (execOp ρ o).run E.P w = .ok (.value u) w' := by
    intro w w' ρ u hl
    unfold execOp
    simp only [ho, resolve, hc, Sem.run_bind, Sem.run_pure, Result.andThen_ok, invoke, builtin, haa, hta]
    rw [show (#[x, y].map ρ) = #[ρ x, ρ y] by simp, hl]; rfl
  unfold sappend at hk
  split at hk
  · rename_i el sz by_ z ht
    split at hk
    · rename_i ti th hel htag
      split at hk
      · exact hk.elim
      · rename_i hchk
        simp only [Bool.and_eq_true] at hchk
        obtain ⟨⟨hb0, hsf⟩, hzl⟩ := hchk
        have hb0 : 0 < ti.bytes := blt_lt hb0
        have hzl : (ofVal ti.zero : SV Y).cells.length = E.w th := Nat.eq_of_beq_eq_true hzl
        have hthof : E.thOf el = some th ∧ E.el th = el := by
          unfold tagOf at htag
          split at htag
          · rename_i th0 h1
            split at htag
            · rename_i h2
              cases htag
              exact ⟨h1, Nat.eq_of_beq_eq_true h2⟩
            · cases htag
          · cases htag
        have hsz : ti.size = E.w th := hE.thOf el th ti hthof.1 hel
        have hpos := hE.pos th
        obtain ⟨hu, _⟩ := hE.ty _ _ ht
        obtain ⟨_, info, hi1, hi2, hi3, hi4⟩ := hE.ty _ _ hel
        have hzs : ti.zero.cells.size = E.w th := by rw [← (ofVal_cells (E := E) ti.zero).1]; exact hzl
        obtain ⟨lit, l2, rd2, hk, hcont⟩ := contK_ok hE hk
        have hmx : ∀ n, n * ti.bytes ≤ 140737488355328 → n ≤ 140737488355328 := fun n hn => Nat.le_trans (Nat.le_mul_of_pos_right n hb0) hn
        rcases emptyK_of hk with ⟨hnil, hk2⟩ | ⟨hne, hk2⟩
        · clear hk; have hk := hk2; clear hk2
          -- nothing is appended
          subst hnil
          refine ⟨_, hk, fun b hb => by simp [quiet] at hb, ?_⟩
          intro B σ g w ρ hh hrd hI hB hfree hx
          obtain ⟨b2, c2, us2, C2⟩ := hcont hh σ g w B (ρ y) (fun b hb => hrd b hb) hI (hx y my)
          obtain ⟨b1, n1, c1, e1, hle⟩ := slice_form hsf (hx x mx)
          refine post_value (run w w ρ (ρ x) ?_) ⟨σ, g, .refl _ _ _ _, by rw [patch_quiet]; exact hI, hx x mx⟩
          rw [C2.v, e1]
          exact run_append_zero hu hi1 hle
        · clear hk; have hk := hk2; clear hk2
          have hl2 : 0 < l2.length := List.length_pos_iff.2 hne
          -- a new block
          have newblk : ∀ (l1 : List (Y.dom th)) (rd : List Nat), (∀ (B : Nat) (σ : Pl) (g : GH) (w : World) (ρ : Operand → Value) (hh : Hp Y), (∀ b ∈ rd, hh b = h b) → Inv E B σ hh g w → (∀ x ∈ o.op.operands.toList, Den E σ g (ev T x) (ρ x)) →
                ∃ base c us, Cont E σ g w th l1 (ρ x) base c us ∧ c < l1.length + l2.length) → (l1.length + l2.length) * ti.bytes ≤ 140737488355328 →
              k (fresh i (.sl i 0 (l1.length + l2.length) (E.w th) none) (.rows th (l1 ++ l2) 0) (rd ++ rd2)) → ∃ r, k r ∧ OpTri E o T h i r := by
            intro l1 rd h1 hbound hk
            refine ⟨_, hk, fun b hb => by simp [fresh] at hb, ?_⟩
            intro B σ g w ρ hh hrd hI hB hfree hx
            have hrd' : ∀ b ∈ rd ++ rd2, hh b = h b := hrd
            obtain ⟨b1, c1, us1, C1, hlt⟩ := h1 B σ g w ρ hh (fun b hb => hrd' b (by simp [hb])) hI hx
            obtain ⟨b2, c2, us2, C2⟩ := hcont hh σ g w B (ρ y) (fun b hb => hrd' b (by simp [hb])) hI (hx y my)
            obtain ⟨r2, o2, hb2⟩ := C2.some hl2
            have hn := hmx _ hbound
            have hfi := hfree i (Nat.le_refl _) (Nat.lt_succ_self _)
            -- what the run leaves
            have hres : ∃ (cap : Nat) (rest : Array Value), (Builtin.append_ #[t, t] o.type #[ρ x, ρ y]).run E.P w = .ok (.slice (some ⟨w.heap.size, 0, none⟩) (l1.length + l2.length) cap) (w.drew.alloc (.cells ((us1 ++ us2).toArray ++ rest) el)) ∧ l1.length + l2.length ≤ cap ∧ cap ≤ maxLen ∧ rest.size = (cap - (l1.length + l2.length)) * E.w th := by
              rw [C1.v, C2.v, hb2]
              cases hq : b1 with
              | none =>
                have hc1 := C1.nil hq
                have hl1 : l1.length = 0 := by have := C1.le; omega
                have hus1 : us1 = [] := List.eq_nil_of_length_eq_zero (by rw [C1.len, hl1]; simp)
                have := run_append_nil (P := E.P) w t o.type el info ti.zero hu hi1 hi4 ⟨r2, o2, none⟩ l2.length c2 us2 (by rw [C2.len, hi2, hsz]) (fun j u hj => by rw [add_at]; exact C2.cell r2 o2 hb2 j u hj) hl2 (by omega) (by rw [hi3]; rw [hl1, Nat.zero_add] at hbound; omega)
                rw [hc1, hl1, hus1, Nat.zero_add, List.nil_append]
                refine ⟨_, _, this, grownCap_ge w _ _ _, grownCap_le_maxLen w _ _ _ (by unfold maxLen; omega), ?_⟩
                rw [size_zeroCells, hzs]
              | some a1 =>
                have := run_append_grow (P := E.P) w t o.type el info ti.zero hu hi1 hi4 a1 l1.length c1 us1 (by rw [C1.len, hi2, hsz]) (fun j u hj => by
                  have hlt1 : 0 < l1.length := by
                    have h1 := (List.getElem?_eq_some_iff.1 hj).1
                    rw [C1.len] at h1
                    rcases Nat.eq_zero_or_pos l1.length with e | e
                    · rw [e] at h1; simp at h1
                    · exact e
                  obtain ⟨r1, o1, hb1⟩ := C1.some hlt1
                  rw [hq] at hb1; cases hb1
                  rw [add_at]; exact C1.cell r1 o1 hq j u hj) ⟨r2, o2, none⟩ l2.length c2 us2 (by rw [C2.len, hi2, hsz]) (fun j u hj => by rw [add_at]; exact C2.cell r2 o2 hb2 j u hj) hlt (by omega) (by rw [hi3]; exact growslice_fits hlt hbound)
                refine ⟨grownCap w (l1.length + l2.length) c1 el, Builtin.zeroCells ti.zero.cells (grownCap w (l1.length + l2.length) c1 el - (l1.length + l2.length)), by rw [this]; simp, grownCap_ge w _ _ _, grownCap_le_maxLen w _ _ _ (by unfold maxLen; omega), ?_⟩
                rw [size_zeroCells, hzs]
            obtain ⟨cap, rest, hrun, hc1, hc2, hrs⟩ := hres
            have hasz : ((us1 ++ us2).toArray ++ rest).size = cap * E.w th := by
              have e1 := C1.len
              have e2 := C2.len
              simp only [Array.size_append, List.size_toArray, List.length_append, e1, e2, hrs, ← Nat.add_mul]
              congr 1; omega
            obtain ⟨q1, q2⟩ := inv_alloc (i := i) (inv_drew hI) (by simpa using hB) hfi (arr := (us1 ++ us2).toArray ++ rest) (e := el) (blk := .rows th (l1 ++ l2) 0) (by intro es e; cases e) hthof.2.symm
              (by simp only [Blk.cells]; rw [flat_len hE, hasz, List.length_append]; exact Nat.mul_le_mul_right _ hc1)
              (fun j sv hj => by
                obtain ⟨u, hu, hd⟩ := append_den hE C1.len C1.den C2.len C2.den hj
                refine ⟨u, ?_, hd⟩
                rw [Array.getElem?_append_left (by simpa using (List.getElem?_eq_some_iff.1 hu).1)]
                simpa using hu)
            refine post_value (run w _ ρ _ hrun) ⟨_, _, stp_drew q2, by rw [patch_fresh]; exact q1, ?_⟩
            have := Den.sl (E := E) (g := g) (σ := updσ σ i (w.drew.heap.size, ((us1 ++ us2).toArray ++ rest).size)) (b := i) (off := 0) (len := l1.length + l2.length) (w := E.w th) (c := cap) (cap := none) (r := w.heap.size) (z := ((us1 ++ us2).toArray ++ rest).size) (by simp [updσ]) (by rw [hasz]; simp) hc1 hc2 (fun m e => by cases e)
            show Den E _ g (.sl i 0 (l1.length + l2.length) (E.w th) none) _
            simpa using this
          split at hk
          · -- nil
            rename_i hX
            obtain ⟨hp, hk⟩ := need_of hk
            refine newblk [] [] (fun B σ g w ρ hh _ hI hx => ?_) (by simpa using hp) (by simpa using hk)
            have := hx x mx
            rw [hX] at this
            generalize ρ x = v at this
            cases this
            exact ⟨none, 0, [], { v := rfl, le := Nat.le_refl _, mx := by { unfold maxLen; omega }, nil := fun _ => rfl, some := fun h => absurd h (by simp), len := by simp, cell := fun r o e => (by cases e), den := fun j sv u h _ => absurd h (by simp) }, by simpa using hl2⟩
          · rename_i th' l1 hX
            obtain ⟨e, hk⟩ := castK_of hk
            subst e
            obtain ⟨hbound, hk⟩ := need_of hk
            refine newblk l1 [] (fun B σ g w ρ hh _ hI hx => ?_) hbound (by simpa using hk)
            have hd := hx x mx
            rw [hX] at hd
            obtain ⟨lit', l', rd', hq, hq'⟩ := contK_ok (E := E) hE (h := h) (th := th') (x := .psl th' l1 true) (k := fun lit l rd => l = l1 ∧ rd = []) (by
              unfold contK castK
              simp only
              split
              · simp
              · rename_i hn _; exact hn rfl)
            obtain ⟨rfl, rfl⟩ := hq
            obtain ⟨base, c, us, C⟩ := hq' hh σ g w B (ρ x) (by simp) hI hd
            obtain ⟨base', c', cv, e1, _, _, hf, _⟩ := den_psl hd
            have e2 := C.v
            rw [e1] at e2; cases e2
            exact ⟨_, _, us, C, by have := hf rfl; omega⟩
          · rename_i b off len w' c0 hX
            obtain ⟨lit1, l1, rd1, hk, hc1⟩ := contK_ok hE hk
            obtain ⟨⟨hlt, hbound⟩, hk⟩ := need_of hk
            refine newblk l1 rd1 (fun B σ g w ρ hh hrd hI hx => ?_) hbound hk
            have hd := hx x mx
            rw [hX] at hd
            obtain ⟨base, c, us, C⟩ := hc1 hh σ g w B (ρ x) hrd hI hd
            obtain ⟨r, z, c', e1, _, _, _, _, hcap⟩ := den_sl hd
            have e2 := C.v
            rw [e1] at e2; cases e2
            exact ⟨_, _, us, C, by have := hcap c0 rfl; omega⟩
          · rename_i b len w' hX
            split at hk
            · rename_i th' l fz hb
              split at hk
              · rename_i hw
                obtain rfl : w' = E.w th := Nat.eq_of_beq_eq_true hw
                have e := castK_eq hk
                subst e
                obtain ⟨⟨hle, hfz, hbound⟩, hk⟩ := need_of (castK_self hk)
                refine ⟨_, hk, fun b' hb' => by (simp at hb'; subst hb'; rw [hb]; simp), ?_⟩
                intro B σ g w ρ hh hrd hI hB hfree hx
                have hrd' : ∀ b' ∈ b :: rd2, hh b' = h b' := hrd
                have hb' := (hrd' b (by simp)).trans hb
                obtain ⟨b2, c2, us2, C2⟩ := hcont hh σ g w B (ρ y) (fun b' hb' => hrd' b' (by simp [hb'])) hI (hx y my)
                obtain ⟨r2, o2, hb2⟩ := C2.some hl2
                have hd := hx x mx
                rw [hX] at hd
                obtain ⟨r, z', c1, e1, hσ, hz, hlc, hmx1, _⟩ := den_sl hd
                rw [Nat.zero_add] at hz
                rw [Nat.zero_mul] at e1
                obtain ⟨r', z'', hσ', hbo⟩ := hI.blk b _ hb'
                rw [hσ] at hσ'; cases hσ'
                obtain ⟨arr, e, ha, hasz, hcl, hcd, hele⟩ := (BlkOk.cells_iff (by intro es e; cases e)).1 hbo
                have hele' : e = E.el th' := hele
                rw [hele', hthof.2] at ha
                simp only [Blk.cells] at hcl hcd
                rw [flat_len hE] at hcl
                have hfi := hfree i (Nat.le_refl _) (Nat.lt_succ_self _)
                have hne : b ≠ i := by rintro rfl; rw [hfi] at hσ; cases hσ
                have hn := hmx _ hbound
                have e2 := C2.len
                have hlw : len * E.w th' ≤ arr.size := by
                  have := Nat.mul_le_mul_right (E.w th') hlc
                  omega
                have hone : ∀ u ∈ us2, u.oneCell' = true := by
                  intro u hu
                  obtain ⟨j, hj, rfl⟩ := List.getElem_of_mem hu
                  have hj' : j < (l2.flatMap (E.enc th')).length := by rw [flat_len hE]; omega
                  exact den_leaf (flat_leaf hE th' l2 (List.getElem?_eq_getElem hj')) (C2.den j _ _ (List.getElem?_eq_getElem hj') (List.getElem?_eq_getElem hj))
                have hus1 : (arr.toList.take (len * E.w th')).length = (l.take len).length * E.w th' := by
                  rw [List.length_take, List.length_take, Nat.min_eq_left (by simpa using hlw), Nat.min_eq_left hle]
                have hd1 : ∀ (j : Nat) sv u, ((l.take len).flatMap (E.enc th'))[j]? = some sv → (arr.toList.take (len * E.w th'))[j]? = some u → Den E σ g sv u := by
                  intro j sv u h1 h2
                  obtain ⟨q, p, y', rfl, hp, hq, hs⟩ := flat_inv hE th' _ h1
                  rw [List.getElem?_take] at hq h2
                  split at hq
                  · split at h2
                    · obtain ⟨u', hu', hd'⟩ := hcd (q * E.w th' + p) sv (by rw [flat_get hE th' l q y' hq p hp]; exact hs)
                      rw [show arr.toList[q * E.w th' + p]? = arr[q * E.w th' + p]? by simp, hu'] at h2
                      cases h2; exact hd'
                    · cases h2
                  · cases hq
                have hll : (l.take len).length = len := by simp; omega
                have hden : ∀ (j : Nat) sv, (((l.take len) ++ l2).flatMap (E.enc th'))[j]? = some sv → ∃ u, (arr.toList.take (len * E.w th') ++ us2)[j]? = some u ∧ Den E σ g sv u := fun j sv hj => append_den hE hus1 hd1 C2.len C2.den hj
                rw [patch_consume _ _ _ _ _ _ hne]
                by_cases hroom : len + l2.length ≤ c1
                · have hfit : len * info.size + us2.length ≤ arr.size := by
                    rw [hi2, hsz, e2, ← Nat.add_mul]
                    have := Nat.mul_le_mul_right (E.w th') hroom
                    omega
                  have hrun := run_append_room (P := E.P) w t o.type el info hu hi1 r len c1 arr ha ⟨r2, o2, none⟩ l2.length c2 us2 (by rw [e2, hi2, hsz]) (fun j u hj => by rw [add_at]; exact C2.cell r2 o2 hb2 j u hj) hone hroom hfit
                  rw [hi2, hsz] at hrun hfit
                  have hsp := splice_get arr.toList us2 (len * E.w th') (by simpa using hfit)
                  obtain ⟨q1, q2⟩ := inv_set (i := i) hI (blk' := .rows th' (l.take len ++ l2) fz) hb' hσ (arr' := (arr.toList.take (len * E.w th') ++ us2 ++ arr.toList.drop (len * E.w th' + us2.length)).toArray) ha (by simp; omega) hasz hthof.2.symm (by intro es e; cases e) rfl
                    (fun n hn' => by
                      simp only [Blk.fzc] at hn'
                      have := Nat.mul_le_mul_right (E.w th') hfz
                      rw [List.getElem?_toArray, hsp, if_pos (by omega)]; simp)
                    (by simp only [Blk.cells]; rw [flat_len hE, List.length_append, hll]; have := Nat.mul_le_mul_right (E.w th') hroom; omega)
                    (fun j sv hj => by
                      obtain ⟨u, hu', hd'⟩ := hden j sv hj
                      refine ⟨u, ?_, hd'⟩
                      rw [List.getElem?_toArray, List.getElem?_append_left (List.getElem?_eq_some_iff.1 hu').1]; exact hu')
                  have q3 := inv_rename (b := b) (i := i) q1 (by rw [upd_apply, if_pos rfl]) hσ hfi
                  have eh : upd (upd (upd hh b (some (.rows th' (l.take len ++ l2) fz))) b none) i (some (.rows th' (l.take len ++ l2) fz)) = upd (upd hh b none) i (some (.rows th' (l.take len ++ l2) fz)) := by
                    funext j
                    simp only [upd_apply]
                    by_cases c1 : j = i <;> by_cases c2 : j = b <;> simp [c1, c2]
                  rw [eh] at q3
                  refine post_value (run w _ ρ _ (by rw [C2.v, e1, hb2]; exact hrun)) ⟨_, g, ⟨updσ_le hfi, ?_, q2.gle, q2.gcnew, q2.gmnew, q2.heap, q2.size, q2.os, q2.tape, q2.output, ?_⟩, q3, ?_⟩
                  · intro b' p hb'
                    unfold updσ at hb'
                    by_cases c : b' = i
                    · right; simp [c]
                    · rw [if_neg c] at hb'; exact .inl hb'
                  · intro b' r' z2 h1 h2
                    unfold updσ at h2
                    by_cases c : b' = i
                    · rw [if_pos c] at h2; cases h2; exact .inr ⟨b, by simp, _, hσ⟩
                    · rw [if_neg c, h1] at h2; cases h2
                  · have := Den.sl (E := E) (g := g) (σ := updσ σ i (r, z')) (b := i) (off := 0) (len := len + l2.length) (w := E.w th') (c := c1) (cap := none) (r := r) (z := z') (by simp [updσ]) (by simpa using hz) hroom hmx1 (fun m e => by cases e)
                    simpa using this
                · have hlt : c1 < len + l2.length := by omega
                  have hrun := run_append_grow (P := E.P) w t o.type el info ti.zero hu hi1 hi4 ⟨r, 0, none⟩ len c1 (arr.toList.take (len * E.w th')) (by rw [hus1, hll, hi2, hsz]) (fun j u hj => by
                    rw [add_at, Nat.zero_add]
                    rw [List.getElem?_take] at hj
                    split at hj
                    · simp only [World.cell?, ha]; simpa using hj
                    · cases hj) ⟨r2, o2, none⟩ l2.length c2 us2 (by rw [e2, hi2, hsz]) (fun j u hj => by rw [add_at]; exact C2.cell r2 o2 hb2 j u hj) hlt (by omega) (by rw [hi3]; exact growslice_fits hlt hbound)
                  have hge := grownCap_ge w (len + l2.length) c1 el
                  have hcm := grownCap_le_maxLen w (len + l2.length) c1 el (by unfold maxLen; omega)
                  generalize hcap : grownCap w (len + l2.length) c1 el = cap at hrun hge hcm
                  have hIs : Inv E B σ (upd hh b none) g w.drew := inv_drew (inv_sub hI fun b' x' hx' => by
                    rw [upd_apply] at hx'
                    split at hx'
                    · cases hx'
                    · exact hx')
                  have hasz2 : ((arr.toList.take (len * E.w th')).toArray ++ us2.toArray ++ Builtin.zeroCells ti.zero.cells (cap - (len + l2.length))).size = cap * E.w th' := by
                    rw [hll] at hus1
                    simp only [Array.size_append, List.size_toArray, hus1, e2, size_zeroCells, hzs, ← Nat.add_mul]
                    congr 1; omega
                  obtain ⟨q1, q2⟩ := inv_alloc (i := i) hIs (by simpa using hB) hfi (arr := (arr.toList.take (len * E.w th')).toArray ++ us2.toArray ++ Builtin.zeroCells ti.zero.cells (cap - (len + l2.length))) (e := el) (blk := .rows th' (l.take len ++ l2) fz) (by intro es e; cases e) hthof.2.symm
                    (by simp only [Blk.cells]; rw [flat_len hE, hasz2, List.length_append, hll]; exact Nat.mul_le_mul_right _ hge)
                    (fun j sv hj => by
                      obtain ⟨u, hu', hd'⟩ := hden j sv hj
                      refine ⟨u, ?_, hd'⟩
                      rw [Array.getElem?_append_left (by have := (List.getElem?_eq_some_iff.1 hu').1; simpa using this)]
                      simpa using hu')
                  refine post_value (run w _ ρ _ (by rw [C2.v, e1, hb2]; exact hrun)) ⟨_, g, stp_drew (q2.weaken' (by simp)), q1, ?_⟩
                  have := Den.sl (E := E) (g := g) (σ := updσ σ i (w.drew.heap.size, ((arr.toList.take (len * E.w th')).toArray ++ us2.toArray ++ Builtin.zeroCells ti.zero.cells (cap - (len + l2.length))).size)) (b := i) (off := 0) (len := len + l2.length) (w := E.w th') (c := cap) (cap := none) (r := w.heap.size) (z := ((arr.toList.take (len * E.w th')).toArray ++ us2.toArray ++ Builtin.zeroCells ti.zero.cells (cap - (len + l2.length))).size) (by simp [updσ]) (by rw [hasz2]; simp) hge hcm (fun m e => by cases e)
                  simpa using this
              · exact hk.elim
            · exact hk.elim
          · exact hk.elim
    · exact hk.elim
  · exact hk.elim
end
end Go.Proofs.YtcaomfbcchemnaaDoor
