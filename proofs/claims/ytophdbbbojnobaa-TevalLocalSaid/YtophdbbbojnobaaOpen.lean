/- An argument that reads as data: what lies in memory. -/
import Derived.Test.YtophdbbbojnobaaProg
import Derived.Test.YtophdbbbojnobaaOp18
import Derived.ProofKit
import Derived.OpenShut
import Derived.Deep.Slices
namespace Go.Proofs.Ytophdbbbojnobaa
open Go.ChangeShapes Go.WideShapes Go.ChangeAt Go.RowKit
set_option linter.unusedVariables false

section
variable {H : Type} {enc : TypeId × Value → H} {P : Program} {w : World} {spare : Nat → Bool} {held : Bool} {fuel : Nat} {t : TypeId} {cs : List Value} {x : DataW H × List MemPlace}

theorem one_int {k : IntKind} (ht : P.underlying t = some (.int k)) (h : DataW.trod enc P w 0 spare held fuel t cs = some x) : ∃ n, cs = [.int k n] ∧ (Lit.int k n).wf = true := by
  cases fuel with
  | zero => simp [DataW.trod] at h
  | succ m =>
    unfold DataW.trod at h
    rw [ht] at h
    split at h <;> simp_all
theorem one_string (ht : P.underlying t = some .string) (h : DataW.trod enc P w 0 spare held fuel t cs = some x) : ∃ s, cs = [.string s] ∧ s.size ≤ maxLen := by
  cases fuel with
  | zero => simp [DataW.trod] at h
  | succ m =>
    unfold DataW.trod at h
    rw [ht] at h
    split at h <;> simp_all
theorem one_i64 (ht : P.underlying t = some (.int .i64)) (h : DataW.trod enc P w 0 spare held fuel t cs = some x) : ∃ n, cs = [.int .i64 n] ∧ I64 n := by
  obtain ⟨n, h1, h2⟩ := one_int ht h
  refine ⟨n, h1, ?_⟩
  simp [Lit.wf, IntKind.min, IntKind.max, IntKind.signed, IntKind.bits] at h2
  exact ⟨by omega, by omega⟩

theorem slice_of_trod {α : Type} [Inhabited α] {e : TypeId} {k : Nat} {R : List Value → α → Prop} (ht : P.underlying t = some (.slice e)) (hk : P.cellsOf e = k) (hk0 : 0 < k)
    (h : DataW.trod enc P w 0 spare held fuel t cs = some x) (hR : ∀ n cs' y, n < fuel → DataW.trod enc P w 0 spare held n e cs' = some y → ∃ a, R cs' a) : ∃ sv l, cs = [sv] ∧ SlIn w k R sv l := by
  rcases DataW.trod_slice ht h with ⟨h0, _⟩ | ⟨a, len, cap, elems, rest, n, hf, hcs, _, _, hl, hc, hel, hcell, _⟩
  · exact ⟨_, [], h0, none, 0, rfl, Nat.le_refl _, by decide, fun h => absurd h (Nat.lt_irrefl 0)⟩
  · have hall : ∀ i, i < len → ∃ p : List Value × α, w.cells? 0 (a.add (i * k)) k = some p.1 ∧ R p.1 p.2 := by
      intro i hi
      have h1 := hcell i hi
      rw [List.getElem?_eq_getElem (by omega)] at h1
      obtain ⟨cs', hc1, hc2⟩ := Option.bind_eq_some_iff.1 h1
      obtain ⟨y, hy⟩ := hR n cs' _ (by omega) hc2
      exact ⟨(cs', y), by rw [← hk]; exact hc1, hy⟩
    obtain ⟨f, hfam⟩ := Go.Deep.choose_lt (α := List Value × α) hall
    refine ⟨_, (List.range len).map fun i => (f i).2, hcs, some a, cap, by simp, by simpa using hl, by unfold maxLen at hc; omega, fun h0 => ?_⟩
    have h0' : 0 < len := by simpa using h0
    have hb0 : a.spot = none ∧ a.block < w.heap.size := by
      have h1 := (hfam 0 h0').1
      obtain ⟨_, hlen, hcl⟩ := World.cells?_some h1
      refine ⟨?_, by simpa [Addr.add] using World.cells?_block h1 hk0⟩
      have h2 := hcl 0 hk0
      rw [List.getElem?_eq_getElem (by omega)] at h2
      simp only [Nat.zero_mul, Addr.add, if_true] at h2
      unfold World.cell? at h2
      split at h2
      · split at h2
        · cases h2
        · rename_i hs; simpa using hs
      · cases h2
    obtain ⟨b, o, s⟩ := a
    obtain ⟨rfl, hb⟩ := hb0
    refine ⟨b, o, rfl, hb, fun i y hi => ?_⟩
    have hilt : i < len := by have := (List.getElem?_eq_some_iff.1 hi).1; simpa using this
    have hy : (f i).2 = y := by simpa [hilt] using hi
    obtain ⟨h1, h2⟩ := hfam i hilt
    obtain ⟨_, hlen, hcl⟩ := World.cells?_some h1
    refine ⟨(f i).1, hlen, fun j v hv => ?_, hy ▸ h2⟩
    have hj : j < k := by have := (List.getElem?_eq_some_iff.1 hv).1; omega
    have := hcl j hj
    rw [hv, Go.Deep.add_add] at this
    rw [Nat.add_assoc]
    unfold Addr.add at this
    by_cases hz : i * k + j = 0
    · rw [if_pos hz] at this
      rw [hz]; exact this
    · rw [if_neg hz] at this
      exact this
theorem agg_of_cells {v : Value} {n : Nat} (h : v.cells.toList.length = n) (hn : n ≠ 1) : v = .agg v.cells.toList.toArray := by
  cases v <;> simp_all [Value.cells]
end

instance : Inhabited Ex := ⟨ex0⟩
instance : Inhabited Tst := ⟨⟨0, 0, 0⟩⟩
instance : Inhabited Cl := ⟨⟨⟨#[]⟩, [], ex0⟩⟩

section
variable {H : Type} {enc : TypeId × Value → H} {w : World} {spare : Nat → Bool} {held : Bool}
theorem len7 {cs : List Value} (h : cs.length = 7) : ∃ a b c d e f g, cs = [a, b, c, d, e, f, g] := by
  match cs, h with
  | [a, b, c, d, e, f, g], _ => exact ⟨a, b, c, d, e, f, g, rfl⟩
theorem len3 {cs : List Value} (h : cs.length = 3) : ∃ a b c, cs = [a, b, c] := by
  match cs, h with
  | [a, b, c], _ => exact ⟨a, b, c, rfl⟩
theorem len9 {cs : List Value} (h : cs.length = 9) : ∃ a b l, cs = a :: b :: l ∧ l.length = 7 := by
  match cs, h with
  | a :: b :: l, h => exact ⟨a, b, l, rfl, by simpa using h⟩

theorem cells_int : Try.prog.cellsOf 3 = 1 := by kernel_rfl
theorem cells_dim : Try.prog.cellsOf 23 = 4 := by kernel_rfl
theorem cells_exs : Try.prog.cellsOf 24 = 1 := by kernel_rfl
theorem cells_expr : Try.prog.cellsOf 26 = 7 := by kernel_rfl
theorem cells_env : Try.prog.cellsOf 29 = 17 := by kernel_rfl
theorem cells_v : Try.prog.cellsOf 27 = 16 := by kernel_rfl
theorem cells_test : Try.prog.cellsOf 58 = 3 := by kernel_rfl
theorem cells_tests : Try.prog.cellsOf 44 = 1 := by kernel_rfl
theorem cells_clause : Try.prog.cellsOf 46 = 9 := by kernel_rfl
theorem cells_clauses : Try.prog.cellsOf 36 = 1 := by kernel_rfl
theorem cells_tariff : Try.prog.cellsOf 38 = 3 := by kernel_rfl
theorem cells_string : Try.prog.cellsOf 9 = 1 := by kernel_rfl

set_option maxHeartbeats 1000000 in
theorem expr_of_trod : ∀ (fuel : Nat) (cs : List Value) (x : DataW H × List MemPlace), DataW.trod enc Try.prog w 0 spare held fuel 26 cs = some x → ∃ e, ExIn w fuel cs e := by
  intro fuel
  induction fuel using Nat.strongRecOn with
  | ind fuel ih =>
    intro cs x h
    obtain ⟨xs, n, rfl, _, hl, hxl, hf⟩ := DataW.trod_struct Try.underlying26 h
    rw [cells_expr] at hl
    obtain ⟨a, b, c, d, e, f, g, rfl⟩ := len7 hl
    have hx4 : xs.length = 4 := by simpa using hxl
    have h0 := hf 0 _ rfl
    have h1 := hf 1 _ rfl
    have h2 := hf 2 _ rfl
    have h3 := hf 3 _ rfl
    rw [List.getElem?_eq_getElem (by omega)] at h0 h1 h2 h3
    simp only [List.getElem_toArray, List.getElem_cons_zero, List.getElem_cons_succ, cells_int, cells_dim, cells_exs, List.drop_zero, List.drop_succ_cons, List.take_succ_cons, List.take_zero] at h0 h1 h2 h3
    obtain ⟨p, hp, ip⟩ := one_i64 Try.underlying3 h0
    obtain ⟨q, hq, iq⟩ := one_i64 Try.underlying3 h1
    obtain ⟨ys, m, rfl, _, _, hyl, hg⟩ := DataW.trod_array Try.underlying23 h2
    have g0 := hg 0 (by decide)
    have g1 := hg 1 (by decide)
    have g2 := hg 2 (by decide)
    have g3 := hg 3 (by decide)
    rw [List.getElem?_eq_getElem (by omega)] at g0 g1 g2 g3
    simp only [List.getElem_toArray, List.getElem_cons_zero, List.getElem_cons_succ, cells_int, List.drop_zero, List.drop_succ_cons, List.take_succ_cons, List.take_zero, Nat.zero_mul, Nat.one_mul, Nat.mul_one] at g0 g1 g2 g3
    obtain ⟨u0, hu0, i0⟩ := one_i64 Try.underlying3 g0
    obtain ⟨u1, hu1, i1⟩ := one_i64 Try.underlying3 g1
    obtain ⟨u2, hu2, i2⟩ := one_i64 Try.underlying3 g2
    obtain ⟨u3, hu3, i3⟩ := one_i64 Try.underlying3 g3
    obtain ⟨sv, l, hsv, hs⟩ := slice_of_trod (R := ExIn w (m + 1)) Try.underlying24 cells_expr (by decide) h3 (fun n' cs' y hn hy => by
      obtain ⟨e, he⟩ := ih n' (by omega) cs' y hy
      exact ⟨e, he.le (by omega)⟩)
    simp only [List.cons.injEq, and_true] at hp hq hu0 hu1 hu2 hu3 hsv
    subst hp hq hu0 hu1 hu2 hu3 hsv
    exact ⟨.mk p q u0 u1 u2 u3 l, _, rfl, ip, iq, i0, i1, i2, i3, hs⟩

theorem open_expr {v : Value} {d : DataW H} {ps : List MemPlace} (h : DataW.Trod enc Try.prog w 0 spare held 26 v d ps) : ∃ cs e n, v = .agg cs.toArray ∧ ExIn w n cs e := by
  obtain ⟨fuel, h⟩ := h
  obtain ⟨e, he⟩ := expr_of_trod fuel _ _ h
  exact ⟨_, e, fuel, agg_of_cells he.len (by decide), he⟩

set_option maxHeartbeats 1000000 in
theorem open_env {v : Value} {d : DataW H} {ps : List MemPlace} (h : DataW.Trod enc Try.prog w 0 spare held 29 v d ps) : ∃ x : Ev, x.ok ∧ v = .agg x.cells.toArray := by
  obtain ⟨fuel, h⟩ := h
  obtain ⟨xs, n, rfl, _, hl, hxl, hf⟩ := DataW.trod_struct Try.underlying29 h
  rw [cells_env] at hl
  have hv := agg_of_cells hl (by decide)
  generalize v.cells.toList = cs at *
  have h0 := hf 0 _ rfl
  have h1 := hf 1 _ rfl
  have hx2 : xs.length = 2 := by simpa using hxl
  rw [List.getElem?_eq_getElem (by omega)] at h0 h1
  simp only [List.getElem_toArray, List.getElem_cons_zero, List.getElem_cons_succ, cells_int, cells_v, List.drop_zero] at h0 h1
  obtain ⟨p, hp, ip⟩ := one_i64 Try.underlying3 h0
  obtain ⟨ys, m, rfl, _, _, hyl, hg⟩ := DataW.trod_array Try.underlying27 h1
  have hall : ∀ i, i < 16 → ∃ n : Int, cs[1 + i]? = some (.int .i64 n) ∧ I64 n := by
    intro i hi
    have h2 := hg i hi
    rw [List.getElem?_eq_getElem (by omega)] at h2
    simp only [List.getElem_toArray, List.getElem_cons_zero, List.getElem_cons_succ, cells_int, Nat.mul_one] at h2
    obtain ⟨n, hn, hi64⟩ := one_i64 Try.underlying3 h2
    refine ⟨n, ?_, hi64⟩
    have h3 : ((((cs.drop 1).take 16).drop i).take 1)[0]? = some (.int .i64 n) := by rw [hn]; rfl
    rw [List.getElem?_take, if_pos (by decide), List.getElem?_drop, List.getElem?_take, if_pos (by omega), List.getElem?_drop] at h3
    simpa using h3
  obtain ⟨f, hfam⟩ := Go.Deep.choose_lt (α := Int) hall
  refine ⟨⟨p, (List.range 16).map f⟩, ⟨by simp, ip, ?_⟩, ?_⟩
  · intro y hy
    obtain ⟨i, hi, rfl⟩ := List.mem_map.1 hy
    exact (hfam i (List.mem_range.1 hi)).2
  · rw [hv]
    congr 2
    apply List.ext_getElem?
    intro i
    unfold Ev.cells
    match i with
    | 0 =>
      have h3 : ((cs.take 1))[0]? = some (.int .i64 p) := by rw [hp]; rfl
      rw [List.getElem?_take, if_pos (by decide)] at h3
      simpa using h3
    | i + 1 =>
      by_cases hi : i < 16
      · have := (hfam i hi).1
        rw [Nat.add_comm] at this
        rw [this]
        simp [hi]
      · rw [List.getElem?_eq_none (by omega), List.getElem?_eq_none (by simp; omega)]

set_option maxHeartbeats 1000000 in
theorem test_of_trod (fuel : Nat) (cs : List Value) (x : DataW H × List MemPlace) (h : DataW.trod enc Try.prog w 0 spare held fuel 58 cs = some x) : ∃ t, TstIn cs t := by
  obtain ⟨xs, n, rfl, _, hl, hxl, hf⟩ := DataW.trod_struct Try.underlying58 h
  rw [cells_test] at hl
  obtain ⟨a, b, c, rfl⟩ := len3 hl
  have hx3 : xs.length = 3 := by simpa using hxl
  have h0 := hf 0 _ rfl
  have h1 := hf 1 _ rfl
  have h2 := hf 2 _ rfl
  rw [List.getElem?_eq_getElem (by omega)] at h0 h1 h2
  simp only [List.getElem_toArray, List.getElem_cons_zero, List.getElem_cons_succ, cells_int, List.drop_zero, List.drop_succ_cons, List.take_succ_cons, List.take_zero] at h0 h1 h2
  obtain ⟨p, hp, ip⟩ := one_i64 Try.underlying3 h0
  obtain ⟨q, hq, iq⟩ := one_i64 Try.underlying3 h1
  obtain ⟨r, hr, ir⟩ := one_i64 Try.underlying3 h2
  simp only [List.cons.injEq, and_true] at hp hq hr
  subst hp hq hr
  exact ⟨⟨p, q, r⟩, rfl, ip, iq, ir⟩

set_option maxHeartbeats 1000000 in
theorem clause_of_trod (fuel : Nat) (cs : List Value) (x : DataW H × List MemPlace) (h : DataW.trod enc Try.prog w 0 spare held fuel 46 cs = some x) : ∃ c, ClIn w cs c := by
  obtain ⟨xs, n, rfl, _, hl, hxl, hf⟩ := DataW.trod_struct Try.underlying46 h
  rw [cells_clause] at hl
  obtain ⟨a, b, l, rfl, hl7⟩ := len9 hl
  have hx3 : xs.length = 3 := by simpa using hxl
  have h0 := hf 0 _ rfl
  have h1 := hf 1 _ rfl
  have h2 := hf 2 _ rfl
  rw [List.getElem?_eq_getElem (by omega)] at h0 h1 h2
  simp only [List.getElem_toArray, List.getElem_cons_zero, List.getElem_cons_succ, cells_string, cells_tests, cells_expr, List.drop_zero, List.drop_succ_cons, List.take_succ_cons, List.take_zero] at h0 h1 h2
  rw [List.take_of_length_le (by omega)] at h2
  obtain ⟨s, hs, _⟩ := one_string Try.underlying9 h0
  obtain ⟨sv, ts, hsv, hts⟩ := slice_of_trod (R := TstIn) Try.underlying44 cells_test (by decide) h1 (fun n' cs' y hn hy => test_of_trod n' cs' y hy)
  obtain ⟨e, he⟩ := expr_of_trod _ _ _ h2
  simp only [List.cons.injEq, and_true] at hs hsv
  subst hs hsv
  exact ⟨⟨s, ts, e⟩, _, _, rfl, hts, _, he⟩

set_option maxHeartbeats 1000000 in
theorem open_tariff {v : Value} {d : DataW H} {ps : List MemPlace} (h : DataW.Trod enc Try.prog w 0 spare held 38 v d ps) : ∃ cs t, v = .agg cs.toArray ∧ TfIn w cs t := by
  obtain ⟨fuel, h⟩ := h
  obtain ⟨xs, n, rfl, _, hl, hxl, hf⟩ := DataW.trod_struct Try.underlying38 h
  rw [cells_tariff] at hl
  have hv := agg_of_cells hl (by decide)
  generalize v.cells.toList = cs at *
  obtain ⟨a, b, c, rfl⟩ := len3 hl
  have hx3 : xs.length = 3 := by simpa using hxl
  have h0 := hf 0 _ rfl
  have h1 := hf 1 _ rfl
  have h2 := hf 2 _ rfl
  rw [List.getElem?_eq_getElem (by omega)] at h0 h1 h2
  simp only [List.getElem_toArray, List.getElem_cons_zero, List.getElem_cons_succ, cells_string, cells_int, cells_clauses, List.drop_zero, List.drop_succ_cons, List.take_succ_cons, List.take_zero] at h0 h1 h2
  obtain ⟨s, hs, _⟩ := one_string Try.underlying9 h0
  obtain ⟨k, hk, ik⟩ := one_i64 Try.underlying3 h1
  obtain ⟨sv, l, hsv, hl⟩ := slice_of_trod (R := ClIn w) Try.underlying36 cells_clause (by decide) h2 (fun n' cs' y hn hy => clause_of_trod n' cs' y hy)
  simp only [List.cons.injEq, and_true] at hs hk hsv
  subst hs hk hsv
  exact ⟨_, ⟨s, k, l⟩, hv, _, rfl, ik, hl⟩
end
end Go.Proofs.Ytophdbbbojnobaa
