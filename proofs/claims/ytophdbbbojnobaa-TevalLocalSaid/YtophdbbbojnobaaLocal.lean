/- An expression's value depends on the attributes that occur in it. In plain Lean. -/
import Derived.Test.YtophdbbbojnobaaOccurs
import Derived.Test.YtophdbbbojnobaaPlain18
import Derived.Test.YtophdbbbojnobaaOps6
namespace Go.Proofs.Ytophdbbbojnobaa
open Go.RowKit
set_option linter.unusedVariables false

theorem sixteen {p : Nat → Prop} (h0 : p 0) (h1 : p 1) (h2 : p 2) (h3 : p 3) (h4 : p 4) (h5 : p 5) (h6 : p 6) (h7 : p 7) (h8 : p 8) (h9 : p 9) (h10 : p 10) (h11 : p 11) (h12 : p 12) (h13 : p 13) (h14 : p 14) (h15 : p 15) : ∀ a, a < 16 → p a := by
  intro a ha
  have hc : a = 0 ∨ a = 1 ∨ a = 2 ∨ a = 3 ∨ a = 4 ∨ a = 5 ∨ a = 6 ∨ a = 7 ∨ a = 8 ∨ a = 9 ∨ a = 10 ∨ a = 11 ∨ a = 12 ∨ a = 13 ∨ a = 14 ∨ a = 15 := by omega
  rcases hc with rfl | rfl | rfl | rfl | rfl | rfl | rfl | rfl | rfl | rfl | rfl | rfl | rfl | rfl | rfl | rfl <;> assumption
theorem bitF_ofInt (x : Int) (a : Nat) (ha : a < 16) : (BitVec.ofInt 64 x).getLsbD a = bitF x a := by
  have h := ofInt_toNat x
  rw [← BitVec.testBit_toNat, Nat.testBit_eq_decide_div_mod_eq]
  unfold bitF
  generalize (BitVec.ofInt 64 x).toNat = m at *
  rw [decide_eq_decide]
  revert a
  apply sixteen <;> simp only [Nat.reducePow, Int.reducePow] <;> omega
theorem bitF_wrap (b : BitVec 64) (a : Nat) (ha : a < 16) : bitF (IntKind.i64.wrap (b.toNat : Int)) a = b.getLsbD a := by
  have hb := b.isLt
  rw [← BitVec.testBit_toNat, Nat.testBit_eq_decide_div_mod_eq, IntKind.wrap_i64]
  unfold bitF
  generalize b.toNat = m at *
  rw [decide_eq_decide]
  revert a
  apply sixteen <;> simp only [Nat.reducePow, Int.reducePow] <;> omega
theorem bitF_and (x y : Int) (a : Nat) (ha : a < 16) : bitF (bits .and .i64 x y) a = (bitF x a && bitF y a) := by
  show bitF (IntKind.i64.wrap ((BitVec.ofInt 64 x &&& BitVec.ofInt 64 y).toNat : Int)) a = _
  rw [bitF_wrap _ _ ha, BitVec.getLsbD_and, bitF_ofInt _ _ ha, bitF_ofInt _ _ ha]
theorem bitF_or (x y : Int) (a : Nat) (ha : a < 16) : bitF (bits .or .i64 x y) a = (bitF x a || bitF y a) := by
  show bitF (IntKind.i64.wrap ((BitVec.ofInt 64 x ||| BitVec.ofInt 64 y).toNat : Int)) a = _
  rw [bitF_wrap _ _ ha, BitVec.getLsbD_or, bitF_ofInt _ _ ha, bitF_ofInt _ _ ha]
theorem bitF_nat (s : Nat) (a : Nat) : bitF (s : Int) a = s.testBit a := by
  rw [Nat.testBit_eq_decide_div_mod_eq]
  unfold bitF
  rw [decide_eq_decide]
  have : ((s : Int) / 2 ^ a) % 2 = ((s / 2 ^ a % 2 : Nat) : Int) := by norm_cast
  rw [this]; omega
/-- the set that the law makes: of v where s, of u elsewhere -/
def mixH (s : Nat) (v u : Int) : Int := bits .or .i64 (bits .and .i64 v (s : Int)) (bits .andNot .i64 u (s : Int))
theorem mixH_bit {s : Nat} {v u : Int} {a : Nat} (ha : a < 16) (hs : s.testBit a = true) : bitF (mixH s v u) a = bitF v a := by
  unfold mixH
  have hn : bitF (bits .andNot .i64 u (s : Int)) a = false := by
    show bitF (IntKind.i64.wrap ((BitVec.ofInt 64 u &&& ~~~BitVec.ofInt 64 (s : Int)).toNat : Int)) a = _
    rw [bitF_wrap _ _ ha, BitVec.getLsbD_and, BitVec.getLsbD_not, bitF_ofInt (s : Int) a ha, bitF_nat, hs]
    simp
  rw [bitF_or _ _ _ ha, bitF_and _ _ _ ha, hn, bitF_nat, hs]
  simp
def pick (s : Nat) (v u : List Int) (j : Nat) : Int := if s.testBit j then v.getD j 0 else u.getD j 0
def mixV (s : Nat) (v u : List Int) (k : Nat) : List Int := (List.range 16).map fun j => if j < k then pick s v u j else 0
def mixE (s : Nat) (v u : Ev) : Ev := ⟨mixH s v.has u.has, mixV s v.v u.v 16⟩

theorem fold_ge {f : Ex → Nat} : ∀ (l : List Ex) (s a : Nat), s.testBit a = true → (l.foldl (fun s y => s ||| f y) s).testBit a = true := by
  intro l
  induction l with
  | nil => intro s a h; exact h
  | cons y l ih => intro s a h; exact ih _ _ (by rw [Nat.testBit_or, h]; rfl)
theorem fold_mem {f : Ex → Nat} : ∀ (l : List Ex) (s a : Nat) (y : Ex), y ∈ l → (f y).testBit a = true → (l.foldl (fun s y => s ||| f y) s).testBit a = true := by
  intro l
  induction l with
  | nil => intro s a y h; simp at h
  | cons z l ih =>
    intro s a y hy h
    rcases List.mem_cons.1 hy with rfl | hy
    · show (l.foldl _ (s ||| f y)).testBit a = true
      exact fold_ge _ _ _ (by rw [Nat.testBit_or, h]; simp)
    · exact ih _ _ _ hy h
theorem load_eq {s : Nat} {v u : Ev} {a : Nat} (ha : a < 16) (hs : s.testBit a = true) : loadF (mixE s v u) a = loadF v a := by
  unfold loadF mixE
  simp only [mixH_bit ha hs]
  have : (mixV s v.v u.v 16).getD a 0 = v.v.getD a 0 := by
    unfold mixV
    rw [List.getD_eq_getElem?_getD, List.getElem?_map, List.getElem?_range ha]
    simp [ha, pick, hs]
  rw [this]
theorem eval_local {s : Nat} {v u : Ev} : ∀ (d : Nat) (n : Nat) (e : Ex), formF d e = true → d ≤ n → (∀ a, (occN n e).testBit a = true → s.testBit a = true) → evalF d e (mixE s v u) = evalF d e v := by
  intro d
  induction d with
  | zero => intro n e h; simp [formF] at h
  | succ d ih =>
    intro n e h hn hs
    obtain ⟨m, rfl⟩ : ∃ m, n = m + 1 := ⟨n - 1, by omega⟩
    by_cases h1 : e.op = 1
    · rw [evalF_succ, evalF_succ, if_pos h1, if_pos h1]
    · by_cases h2 : e.op = 2
      · rw [evalF_succ, evalF_succ, if_neg h1, if_pos h2, if_neg h1, if_pos h2]
        have ha := formF_attr h h2
        refine load_eq (by omega) (hs _ ?_)
        have h0 : occ0 e = 2 ^ e.n.toNat := by unfold occ0; rw [if_pos ⟨h2, ha.2⟩]
        show (e.l.foldl _ (occ0 e)).testBit _ = true
        refine fold_ge _ _ _ ?_
        rw [h0, Nat.testBit_two_pow_self]
      · obtain ⟨hlo, hhi, h4, hl2, hch⟩ := formF_open h h1 h2
        have key : ∀ i, i < e.l.length → evalF d (e.l.getD i ex0) (mixE s v u) = evalF d (e.l.getD i ex0) v := fun i hi => by
          refine ih m _ (hch i hi) (by omega) fun a ha => hs a ?_
          refine fold_mem _ _ _ _ ?_ ha
          rw [List.getD_eq_getElem?_getD, List.getElem?_eq_getElem hi]
          exact List.getElem_mem hi
        by_cases h11 : e.op = 11
        · have hl := h4 h11
          rw [evalF_succ, evalF_succ, key 0 (by omega), key 1 (by omega), key 2 (by omega), key 3 (by omega)]
          simp only [if_neg h1, if_neg h2]
        · have hl := hl2 h11
          have h11' : e.op ≠ 11 := h11
          rw [evalF_succ, evalF_succ, key 0 (by omega), key 1 (by omega)]
          simp only [if_neg h1, if_neg h2, if_pos h11']
theorem ex_depth {w : World} : ∀ (d : Nat) (cs : List Value) (e : Ex) (n : Nat), ExIn w d cs e → formF n e = true → formF (min d n) e = true := by
  intro d
  induction d with
  | zero => intro cs e n h; exact h.elim
  | succ d ih =>
    intro cs e n h hf
    cases n with
    | zero => simp [formF] at hf
    | succ n =>
      rw [show min (d + 1) (n + 1) = min d n + 1 by omega]
      obtain ⟨sv, _, hs⟩ := exD_l h
      simp only [formF, Bool.and_eq_true, decide_eq_true_eq] at hf ⊢
      refine ⟨hf.1, ?_⟩
      have h3 := hf.2
      by_cases h1 : e.op = 1
      · rw [if_pos h1] at h3 ⊢; exact h3
      · by_cases h2 : e.op = 2
        · rw [if_neg h1, if_pos h2] at h3 ⊢; exact h3
        · rw [if_neg h1, if_neg h2] at h3 ⊢
          rw [List.all_eq_true] at h3 ⊢
          intro y hy
          obtain ⟨i, hi, rfl⟩ := List.getElem_of_mem hy
          obtain ⟨A, cap, _, _, _, hel⟩ := hs
          obtain ⟨b, o, _, _, hel⟩ := hel (by omega)
          obtain ⟨cs', _, _, hin⟩ := hel i _ (List.getElem?_eq_getElem hi)
          have := ih cs' _ n hin (by simpa [formF] using h3 _ hy)
          simpa [formF] using this
/-- the law: with s the attributes that occur -/
theorem EvalF_local {w : World} {d : Nat} {cs : List Value} {e : Ex} {v u : Ev} (h : ExIn w d cs e) : EvalF e (mixE (occN d e) v u) = EvalF e v := by
  unfold EvalF
  by_cases hf : formF 24 e = true
  · rw [if_pos hf, if_pos hf]
    have hm := ex_depth d cs e 24 h hf
    rw [eval_le hm (Nat.min_le_right _ _), eval_le hm (Nat.min_le_right _ _)]
    exact eval_local _ d e hm (Nat.min_le_left _ _) fun a ha => ha
  · rw [if_neg hf, if_neg hf]

/-! The attributes in memory. -/
def VP (x : Ev) : World → Value → Prop := fun w u => ∃ b o, u = .pointer (some ⟨b, o, none⟩) ∧ ∀ j, j < 16 → w.cell? ⟨b, o + j, none⟩ = some (.int .i64 (x.v.getD j 0))
theorem VP.st {x : Ev} : St (VP x) := fun w w' u hx ⟨b, o, h1, h2⟩ => ⟨b, o, h1, fun j hj => hx.cell (h2 j hj)⟩
section
variable {o : Oper} {ρ : Operand → Value} {w : World}
set_option maxHeartbeats 1000000
theorem op_envHas {x : Operand} {e : Ev} (ho : o.op = .fieldAddr 29 x 0) (h : LocP 17 (Is (.agg e.cells.toArray)) w (ρ x)) : OpPost Try.prog o ρ w fun u w' => Ext w w' ∧ CellP (Is (.int .i64 e.has)) w' u := by
  obtain ⟨b, off, cs, he, _, hr, hc⟩ := h
  obtain rfl : cs = e.cells := by have : Value.agg cs.toArray = .agg e.cells.toArray := hc; simpa using this
  exact post_value (u := .pointer (some ⟨b, off, none⟩)) (w' := w) (by unfold execOp; rw [ho]; clear hr hc; go_simp) ⟨.refl _, b, off, _, rfl, hr 0 _ rfl, rfl⟩
theorem op_envV {x : Operand} {e : Ev} (hok : e.ok) (ho : o.op = .fieldAddr 29 x 1) (h : LocP 17 (Is (.agg e.cells.toArray)) w (ρ x)) : OpPost Try.prog o ρ w fun u w' => Ext w w' ∧ VP e w' u := by
  obtain ⟨b, off, cs, he, _, hr, hc⟩ := h
  obtain rfl : cs = e.cells := by have : Value.agg cs.toArray = .agg e.cells.toArray := hc; simpa using this
  refine post_value (u := .pointer (some ⟨b, off + 1, none⟩)) (w' := w) (by unfold execOp; rw [ho]; clear hr hc hok; go_simp) ⟨.refl _, b, off + 1, rfl, fun j hj => ?_⟩
  have := hr (1 + j) (.int .i64 (e.v.getD j 0)) (by
    unfold Ev.cells
    rw [Nat.add_comm, List.getElem?_cons_succ, List.getElem?_map, List.getElem?_eq_getElem (by have := hok.1; omega)]
    simp [List.getD_eq_getElem?_getD, List.getElem?_eq_getElem (show j < e.v.length by have := hok.1; omega)])
  rwa [← Nat.add_assoc] at this
theorem op_envAt {x y : Operand} {e : Ev} {k : Nat} (hk : k < 16) (ho : o.op = .indexAddr 27 x y) (h : VP e w (ρ x)) (hy : Is (.int .i64 k) w (ρ y)) : OpPost Try.prog o ρ w fun u w' => Ext w w' ∧ CellP (Is (.int .i64 (e.v.getD k 0))) w' u := by
  obtain ⟨b, off, he, hc⟩ := h
  have ey : ρ y = _ := hy
  have hc' := hc k hk
  clear hc hy
  have h1 : (0 : Int) ≤ k := by omega
  have h2 : (k : Int) < 16 := by omega
  exact post_value (u := .pointer (some ⟨b, off + k, none⟩)) (w' := w) (by unfold execOp; rw [ho]; clear hc'; go_simp) ⟨.refl _, b, off + k, _, rfl, hc', rfl⟩
theorem op_envBuild {x : Operand} {H : Int} {s : Nat} {v u : List Int} {dsts : List (Option Tmp)} {a0 : Act} {vv : Nat → Value} (ho : o.op = .build 29 #[(0, x)]) (S : Sees dsts a0 vv ρ) (h : Is (.int .i64 H) w (ρ x)) : OpPost Try.prog o ρ w fun u1 w' => Ext w w' ∧ Is (.agg (Ev.cells ⟨H, mixV s v u 0⟩).toArray) w' u1 := by
  have e : ρ x = _ := h
  have c := S.c
  clear S h
  exact post_value (u := .agg (Ev.cells ⟨H, mixV s v u 0⟩).toArray) (w' := w) (by
    rw [show (Ev.cells ⟨H, mixV s v u 0⟩) = [.int .i64 H, .int .i64 0, .int .i64 0, .int .i64 0, .int .i64 0, .int .i64 0, .int .i64 0, .int .i64 0, .int .i64 0, .int .i64 0, .int .i64 0, .int .i64 0, .int .i64 0, .int .i64 0, .int .i64 0, .int .i64 0, .int .i64 0] from rfl]
    unfold execOp; rw [ho]; go_simp) ⟨.refl _, rfl⟩
theorem env_one {e : Ev} : e.cells.toArray.all (·.oneCell') = true := all_oneCell_toArray (by
  intro z hz
  unfold Ev.cells at hz
  rcases List.mem_cons.1 hz with rfl | hz
  · rfl
  · obtain ⟨a, _, rfl⟩ := List.mem_map.1 hz; rfl)
theorem op_ptrV {x : Operand} {X : Nat} (ho : o.op = .fieldAddr 29 x 1) (h : Is (.pointer (some ⟨X, 0, none⟩)) w (ρ x)) : OpPost Try.prog o ρ w fun u w' => Ext w w' ∧ Is (.pointer (some ⟨X, 1, none⟩)) w' u := by
  have e : ρ x = _ := h
  exact post_value (u := .pointer (some ⟨X, 1, none⟩)) (w' := w) (by unfold execOp; rw [ho]; clear h; go_simp) ⟨.refl _, rfl⟩
theorem op_ptrAt {x y : Operand} {X k : Nat} (hk : k < 16) (ho : o.op = .indexAddr 27 x y) (h : Is (.pointer (some ⟨X, 1, none⟩)) w (ρ x)) (hy : Is (.int .i64 k) w (ρ y)) : OpPost Try.prog o ρ w fun u w' => Ext w w' ∧ Is (.pointer (some ⟨X, 1 + k, none⟩)) w' u := by
  have e : ρ x = _ := h
  have ey : ρ y = _ := hy
  clear h hy
  have h1 : (0 : Int) ≤ k := by omega
  have h2 : (k : Int) < 16 := by omega
  exact post_value (u := .pointer (some ⟨X, 1 + k, none⟩)) (w' := w) (by unfold execOp; rw [ho]; go_simp) ⟨.refl _, rfl⟩
theorem op_bitI {x y : Operand} {ty2 : TypeId} {a b : Int} (op : BinOp) (hop : op = .and ∨ op = .or ∨ op = .andNot) (ho : o.op = .binOp op 3 x y ty2) (hx : Is (.int .i64 a) w (ρ x)) (hy : Is (.int .i64 b) w (ρ y)) : OpPost Try.prog o ρ w fun u w' => Ext w w' ∧ Is (.int .i64 (bits op .i64 a b)) w' u := by
  have e : ρ x = _ := hx
  have ey : ρ y = _ := hy
  clear hx hy
  rcases hop with rfl | rfl | rfl <;>
  exact post_value (u := .int .i64 (bits _ .i64 a b)) (w' := w) (by unfold execOp; rw [ho]; go_simp) ⟨.refl _, rfl⟩
theorem op_shrN {x y : Operand} {ty2 : TypeId} {s k : Nat} (hs : s < 65536) (hk : k < 16) (ho : o.op = .binOp .shr 3 x y ty2) (hx : Is (.int .i64 s) w (ρ x)) (hy : Is (.int .i64 k) w (ρ y)) : OpPost Try.prog o ρ w fun u w' => Ext w w' ∧ Is (.int .i64 ((s / 2 ^ k : Nat) : Int)) w' u := by
  have e : ρ x = _ := hx
  have ey : ρ y = _ := hy
  clear hx hy
  unfold OpPost execOp
  rw [ho]
  have h1 : (0 : Int) ≤ k := by omega
  have h2 : (k : Int) < 64 := by omega
  go_simp
  exact ⟨.refl _, rfl⟩
theorem wp_store_cell {Q : Exit → Act → World → Prop} {K : Act → World → Prop} {a : Act} {x y : Operand} {b j : Nat} {n : Int} (ho : o.op = .store 3 x y) (hx : a.eval x = .pointer (some ⟨b, j, none⟩)) (hy : a.eval y = .int .i64 n)
    (hc : (w.cell? ⟨b, j, none⟩).isSome = true) (hf : w.frozen? ⟨b, j, none⟩ = false) (h : K (a.put o.dst undef) (w.setCell ⟨b, j, none⟩ (.int .i64 n))) : o.wp Try.prog a w K Q := by
  obtain ⟨u, hu⟩ := Option.isSome_iff_exists.1 hc
  have hrun : (execOp a.eval o).run Try.prog w = .ok .skip (w.setCell ⟨b, j, none⟩ (.int .i64 n)) := by
    generalize a.eval = ρ at *
    unfold execOp; rw [ho]; clear h hc; go_simp
  unfold Oper.wp
  rw [hrun]
  exact h
theorem set_env {h : Int} {L : List Int} {k : Nat} {n : Int} (hL : L.length = 16) (hk : k < 16) : (Ev.cells ⟨h, L⟩).set (1 + k) (.int .i64 n) = Ev.cells ⟨h, L.set k n⟩ := by
  unfold Ev.cells
  rw [Nat.add_comm, List.set_cons_succ, List.map_set]
theorem range_set {X j : Nat} {cs : List Value} {v : Value} (ht : w.there X 0 cs.length) (hr : w.rangeAt X 0 cs) (hj : j < cs.length) : (w.setCell ⟨X, j, none⟩ v).rangeAt X 0 (cs.set j v) := by
  intro i u hu
  rw [Nat.zero_add]
  by_cases h : i = j
  · subst h
    rw [List.getElem?_set_self hj] at hu
    obtain rfl : v = u := by simpa using hu
    obtain ⟨u0, hu0⟩ := Option.isSome_iff_exists.1 (by have := (ht i hj).1; rwa [Nat.zero_add] at this : (w.cell? ⟨X, i, none⟩).isSome = true)
    exact World.cell?_setCell_same _ _ _ hu0
  · rw [List.getElem?_set_ne (fun h' => h h'.symm)] at hu
    have := hr i u hu
    rw [Nat.zero_add] at this
    have hout := World.cell?_setCells_out X [v] j w ⟨X, i, none⟩ (fun _ _ => by
      by_cases hij : i < j
      · left; exact hij
      · right; show j + 1 ≤ i; omega)
    rw [show w.setCell ⟨X, j, none⟩ v = w.setCells X j [v] from rfl, hout]
    exact this
theorem mixV_succ {s : Nat} {v u : List Int} {k : Nat} (hk : k < 16) : (mixV s v u k).set k (pick s v u k) = mixV s v u (k + 1) := by
  apply List.ext_getElem?
  intro i
  unfold mixV
  by_cases h : i = k
  · subst h
    rw [List.getElem?_set_self (by simpa using hk)]
    simp [hk]
  · rw [List.getElem?_set_ne (fun h' => h h'.symm)]
    by_cases hi : i < 16
    · simp only [List.getElem?_map, List.getElem?_range hi, Option.map_some]
      by_cases h2 : i < k
      · rw [if_pos h2, if_pos (by omega)]
      · rw [if_neg h2, if_neg (by omega)]
    · rw [List.getElem?_eq_none (by simp; omega), List.getElem?_eq_none (by simp; omega)]
theorem mixV_len {s : Nat} {v u : List Int} {k : Nat} : (mixV s v u k).length = 16 := by simp [mixV]
theorem mixE_ok {s : Nat} {v u : Ev} (hv : v.ok) (hu : u.ok) : (mixE s v u).ok := by
  refine ⟨mixV_len, ?_, ?_⟩
  · show I64 (mixH s v.has u.has)
    unfold mixH
    show I64 (IntKind.i64.wrap _)
    rw [IntKind.wrap_i64]
    constructor <;> omega
  · intro y hy
    obtain ⟨i, hi, rfl⟩ := List.mem_map.1 hy
    have hz : I64 0 := by constructor <;> decide
    have key : ∀ l : List Int, (∀ y ∈ l, I64 y) → I64 (l.getD i 0) := fun l hl => by
      rw [List.getD_eq_getElem?_getD]
      cases h : l[i]? with
      | none => exact hz
      | some z => exact hl z (List.mem_of_getElem? h)
    show I64 (if i < 16 then pick s v.v u.v i else 0)
    split
    · unfold pick
      split
      · exact key _ hv.2.2
      · exact key _ hu.2.2
    · exact hz
end
end Go.Proofs.Ytophdbbbojnobaa
