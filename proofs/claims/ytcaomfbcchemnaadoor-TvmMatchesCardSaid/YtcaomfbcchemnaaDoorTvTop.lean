/- Chapter 21: the laws' last step: the laid variable, the arguments, the cards. -/
import Derived.Test.YtcaomfbcchemnaaDoorTvN
import Derived.Test.YtcaomfbcchemnaaDoorEngZC
import Derived.Test.YtcaomfbcchemnaaDoorClose
import Derived.Test.YtcaomfbcchemnaaDoorTie
import Derived.Test.YtcaomfbcchemnaaDoorCards
import Derived.Stop.Joined
import Derived.SevenTiedAt
import Derived.WideKeyElems2
namespace Go.Proofs.YtcaomfbcchemnaaDoor
open Go.ChangeShapes Go.WideShapes Go.ChangeAt Go.RowKit
set_option linter.unusedVariables false
set_option linter.unusedSimpArgs false

/-! The laid variable. -/
theorem gBin : Tryd.prog.globalNamed "wagonpool/tvm.binaries" = some 0 := by kernel_rfl
theorem tBin : (Tryd.prog.globals[0]?).map (·.type) = some 105 := by kernel_rfl
abbrev laidB : List (String × DataW Unit) := [("wagonpool/tvm.binaries", Rows.laid_wagonpool_tvm_binaries)]
def binD : List (Lit × DataW (List UInt8)) := [(.int .i64 3, .agg [.held [119, 97, 103, 111, 110, 112, 111, 111, 108, 47, 109, 111, 110, 101, 121, 46, 65, 100, 100]]), (.int .i64 4, .agg [.held [119, 97, 103, 111, 110, 112, 111, 111, 108, 47, 109, 111, 110, 101, 121, 46, 83, 117, 98]]), (.int .i64 5, .agg [.held [119, 97, 103, 111, 110, 112, 111, 111, 108, 47, 109, 111, 110, 101, 121, 46, 77, 117, 108]]), (.int .i64 6, .agg [.held [119, 97, 103, 111, 110, 112, 111, 111, 108, 47, 116, 118, 109, 46, 98, 105, 110, 97, 114, 105, 101, 115, 36, 49]]), (.int .i64 7, .agg [.held [119, 97, 103, 111, 110, 112, 111, 111, 108, 47, 116, 118, 109, 46, 98, 105, 110, 97, 114, 105, 101, 115, 36, 50]]), (.int .i64 8, .agg [.held [119, 97, 103, 111, 110, 112, 111, 111, 108, 47, 116, 118, 109, 46, 98, 105, 110, 97, 114, 105, 101, 115, 36, 51]]), (.int .i64 9, .agg [.held [119, 97, 103, 111, 110, 112, 111, 111, 108, 47, 116, 118, 109, 46, 98, 105, 110, 97, 114, 105, 101, 115, 36, 52]]), (.int .i64 10, .agg [.held [119, 97, 103, 111, 110, 112, 111, 111, 108, 47, 116, 118, 109, 46, 98, 105, 110, 97, 114, 105, 101, 115, 36, 53]]), (.int .i64 11, .agg [.held [119, 97, 103, 111, 110, 112, 111, 111, 108, 47, 116, 118, 109, 46, 98, 105, 110, 97, 114, 105, 101, 115, 36, 54]])]
theorem sorted_mem {H : Type} {p : Lit × DataW H} : ∀ {l : List (Lit × DataW H)}, p ∈ l.foldr DataW.insert [] ↔ p ∈ l
  | [] => Iff.rfl
  | x :: l => by
    rw [List.foldr_cons, (insert_perm x _).mem_iff, List.mem_cons, List.mem_cons, sorted_mem]
theorem bin_val {w : World} {n : Nat} {v : Value} {y : DataW (List UInt8) × List MemPlace} {b : UInt8} {r : List UInt8} {f0 : FuncId} (hone : ((List.range Tryd.prog.funcs.size).filter fun f => (Tryd.prog.funcs[f]?).any (·.name.toUTF8.data.toList == b :: r)) = [f0])
    (h : WideElems.elemAt (funcToken Tryd.prog) Tryd.prog w 0 (fun _ => true) true n 103 v = some y) (hy : y.1 = .agg [.held (b :: r)]) : v = .agg #[.func (.func f0) #[] #[]] := by
  unfold WideElems.elemAt at h
  split at h
  · rename_i hfo
    obtain ⟨xs, m, rfl, rfl, hl, hxl, hf⟩ := DataW.trod_struct Tryd.underlying103 h
    have c103 : Tryd.prog.cellsOf 103 = 1 := by kernel_rfl
    have hx1 : xs.length = 1 := by simpa using hxl
    have h0 := hf 0 _ rfl
    have c101 : Tryd.prog.cellsOf 101 = 1 := by kernel_rfl
    obtain ⟨x0, rfl⟩ : ∃ x0, xs = [x0] := by
      match xs, hx1 with
      | [x0], _ => exact ⟨x0, rfl⟩
    simp only [List.map_cons, List.map_nil, DataW.agg.injEq, List.cons.injEq, and_true] at hy
    cases v with
    | agg cs =>
      have hcs : cs.toList.length = 1 := by rw [← c103]; simpa [Value.cells] using hl
      obtain ⟨v0, hv0⟩ : ∃ v0, cs.toList = [v0] := by
        match hq : cs.toList, hcs with
        | [v0], _ => exact ⟨v0, rfl⟩
      have h0 : DataW.trod (funcToken Tryd.prog) Tryd.prog w 0 (fun _ => true) true m 101 [v0] = some x0 := by
        have h0' : DataW.trod (funcToken Tryd.prog) Tryd.prog w 0 (fun _ => true) true m 101 ((((Value.agg cs).cells.toList).drop 0).take (Tryd.prog.cellsOf 101)) = some x0 := h0
        rw [c101] at h0'
        have e : (Value.agg cs).cells.toList = [v0] := hv0
        rw [e] at h0'
        exact h0'
      have hx0 : x0 = (.held (b :: r), x0.2) := by rw [← hy]
      rw [hx0] at h0
      have := func_of_trod (f0 := f0) Tryd.underlying101 hone h0
      subst this
      rw [show cs = #[.func (.func f0) #[] #[]] from by rw [← Array.toList_inj]; exact hv0]
    | _ => exact absurd hfo (by simp [Value.formed, Tryd.underlying103])
  · cases h
theorem key_intP {P : Program} {t : TypeId} {q : IntKind} (ht : P.underlying t = some (.int q)) {v : Value} {n : Int} (h : keyOf P t v = some (.int q n)) : v = .int q n := by
  unfold keyOf at h
  rw [ht] at h
  simp only [] at h
  unfold mapKey at h
  rw [ht] at h
  cases v with
  | int q' m =>
    simp only [] at h
    split at h
    · rename_i hq
      cases h
      rw [hq.1]
    · cases h
  | _ => simp at h
theorem key_int {v : Value} {n : Int} (h : keyOf Tryd.prog 3 v = some (.int .i64 n)) : v = .int .i64 n := key_intP Tryd.underlying3 h

abbrev binLs : List (Value × SV thy) := [binE 3 104, binE 4 105, binE 5 106, binE 6 107, binE 7 108, binE 8 109, binE 9 111, binE 10 112, binE 11 113]
def binFn (j : Nat) : Nat := [104, 105, 106, 107, 108, 109, 111, 112, 113].getD j 0
theorem bin_at : ∀ (j : Nat) p, binLs[j]? = some p → p = binE (j + 3) (binFn j)
  | 0, p, h => by cases h; rfl
  | 1, p, h => by cases h; rfl
  | 2, p, h => by cases h; rfl
  | 3, p, h => by cases h; rfl
  | 4, p, h => by cases h; rfl
  | 5, p, h => by cases h; rfl
  | 6, p, h => by cases h; rfl
  | 7, p, h => by cases h; rfl
  | 8, p, h => by cases h; rfl
  | j + 9, p, h => by simp [binLs] at h
theorem bin_get : ∀ (j : Nat) p, binLs[j]? = some p → binLs[j]? = some (binE (j + 3) (binFn j)) := fun j p h => by rw [h, bin_at j p h]
set_option maxRecDepth 100000 in
theorem of_laid {W : World} (h : laidMetH Tryd.prog laidB W) : ∃ v, W.cell? ⟨0, 0, none⟩ = some v ∧ Den E (fun _ => none) (gTop W) (.pmap [binE 3 104, binE 4 105, binE 5 106, binE 6 107, binE 7 108, binE 8 109, binE 9 111, binE 10 112, binE 11 113]) v := by
  obtain ⟨g, t, cs, fuel, p, hg, ht, hv, hd⟩ := h.funcs (List.mem_singleton.2 rfl)
  obtain rfl := Option.some.inj (gBin.symm.trans hg)
  obtain rfl := Option.some.inj (tBin.symm.trans ht)
  have hd' : DataW.trod (funcToken Tryd.prog) Tryd.prog W 0 (fun _ => true) true fuel 105 cs.toList = some (.map binD, p) := hd
  rcases WideElems.open_map Tryd.underlying105 hd' with ⟨_, hx⟩ | ⟨b, es, clk, n, rfl, hcs, hb, _, F, hx⟩
  · simp at hx
  simp only [Prod.mk.injEq, DataW.map.injEq] at hx
  have hmem : ∀ q, q ∈ binD ↔ q ∈ es.toList.map (WideElems.rg Tryd.prog 3 (WideElems.elemAt (funcToken Tryd.prog) Tryd.prog W 0 (fun _ => true) true n 103)) := fun q => by rw [hx.1]; exact sorted_mem
  have hcell : W.cell? ⟨0, 0, none⟩ = some (.map (some b)) := by
    have := World.var?_cell hg hv 0
    rw [Array.eq_one_of_toList hcs] at this
    simpa using this
  refine ⟨_, hcell, ?_⟩
  -- an entry: its key, its value
  have entry : ∀ e ∈ es.toList, ∃ y, keyOf Tryd.prog 3 e.key = some (WideElems.rg Tryd.prog 3 (WideElems.elemAt (funcToken Tryd.prog) Tryd.prog W 0 (fun _ => true) true n 103) e).1 ∧
      WideElems.elemAt (funcToken Tryd.prog) Tryd.prog W 0 (fun _ => true) true n 103 e.val = some y ∧ y.1 = (WideElems.rg Tryd.prog 3 (WideElems.elemAt (funcToken Tryd.prog) Tryd.prog W 0 (fun _ => true) true n 103) e).2 := by
    intro e he
    obtain ⟨z, hz⟩ := F.reads e he
    have hrg : WideElems.rg Tryd.prog 3 (WideElems.elemAt (funcToken Tryd.prog) Tryd.prog W 0 (fun _ => true) true n 103) e = z := by unfold WideElems.rg; rw [hz]; rfl
    rw [hrg]
    unfold WideElems.rd at hz
    simp only [Option.bind_eq_some_iff, Option.map_eq_some_iff] at hz
    obtain ⟨key, h1, y, h2, rfl⟩ := hz
    exact ⟨y, h1, h2, rfl⟩
  have one : ∀ (j : Nat) (k f0 : Nat) (nm : List UInt8), binD[j]? = some (.int .i64 k, .agg [.held nm]) → (∃ b r, nm = b :: r) → ((List.range Tryd.prog.funcs.size).filter fun f => (Tryd.prog.funcs[f]?).any (·.name.toUTF8.data.toList == nm)) = [f0] →
      ∀ e ∈ es.toList, WideElems.rg Tryd.prog 3 (WideElems.elemAt (funcToken Tryd.prog) Tryd.prog W 0 (fun _ => true) true n 103) e = (.int .i64 k, .agg [.held nm]) → e.key = .int .i64 k ∧ e.val = .agg #[.func (.func f0) #[] #[]] := by
    rintro j k f0 nm hj ⟨b0, r0, rfl⟩ hone e he hrg
    obtain ⟨y, h1, h2, h3⟩ := entry e he
    rw [hrg] at h1 h3
    exact ⟨key_int h1, bin_val hone h2 h3⟩
  have all : ∀ e ∈ es.toList, ∃ (j : Nat) (k f0 : Nat), binLs[j]? = some (binE k f0) ∧ e.key = .int .i64 k ∧ e.val = .agg #[.func (.func f0) #[] #[]] := by
    intro e he
    have hq : WideElems.rg Tryd.prog 3 (WideElems.elemAt (funcToken Tryd.prog) Tryd.prog W 0 (fun _ => true) true n 103) e ∈ binD := (hmem _).2 (List.mem_map_of_mem he)
    simp only [binD, List.mem_cons, List.not_mem_nil, or_false] at hq
    rcases hq with hq | hq | hq | hq | hq | hq | hq | hq | hq
    · exact ⟨0, 3, 104, rfl, one 0 3 104 _ rfl ⟨_, _, rfl⟩ (by kernel_rfl) e he hq⟩
    · exact ⟨1, 4, 105, rfl, one 1 4 105 _ rfl ⟨_, _, rfl⟩ (by kernel_rfl) e he hq⟩
    · exact ⟨2, 5, 106, rfl, one 2 5 106 _ rfl ⟨_, _, rfl⟩ (by kernel_rfl) e he hq⟩
    · exact ⟨3, 6, 107, rfl, one 3 6 107 _ rfl ⟨_, _, rfl⟩ (by kernel_rfl) e he hq⟩
    · exact ⟨4, 7, 108, rfl, one 4 7 108 _ rfl ⟨_, _, rfl⟩ (by kernel_rfl) e he hq⟩
    · exact ⟨5, 8, 109, rfl, one 5 8 109 _ rfl ⟨_, _, rfl⟩ (by kernel_rfl) e he hq⟩
    · exact ⟨6, 9, 111, rfl, one 6 9 111 _ rfl ⟨_, _, rfl⟩ (by kernel_rfl) e he hq⟩
    · exact ⟨7, 10, 112, rfl, one 7 10 112 _ rfl ⟨_, _, rfl⟩ (by kernel_rfl) e he hq⟩
    · exact ⟨8, 11, 113, rfl, one 8 11 113 _ rfl ⟨_, _, rfl⟩ (by kernel_rfl) e he hq⟩
  have back : ∀ (j : Nat) (k f0 : Nat), binLs[j]? = some (binE k f0) → ∃ e ∈ es.toList, e.key = .int .i64 k := by
    intro j k f0 hj
    obtain ⟨d, hd⟩ : ∃ d, ((.int .i64 k : Lit), d) ∈ binD := by
      match j, hj with
      | 0, hj => cases hj; exact ⟨_, by simp [binD]; try rfl⟩
      | 1, hj => cases hj; exact ⟨_, by simp [binD]; try rfl⟩
      | 2, hj => cases hj; exact ⟨_, by simp [binD]; try rfl⟩
      | 3, hj => cases hj; exact ⟨_, by simp [binD]; try rfl⟩
      | 4, hj => cases hj; exact ⟨_, by simp [binD]; try rfl⟩
      | 5, hj => cases hj; exact ⟨_, by simp [binD]; try rfl⟩
      | 6, hj => cases hj; exact ⟨_, by simp [binD]; try rfl⟩
      | 7, hj => cases hj; exact ⟨_, by simp [binD]; try rfl⟩
      | 8, hj => cases hj; exact ⟨_, by simp [binD]; try rfl⟩
      | j + 9, hj => simp at hj
    obtain ⟨e, he, hrg⟩ := List.mem_map.1 ((hmem _).1 hd)
    obtain ⟨y, h1, h2, h3⟩ := entry e he
    rw [hrg] at h1
    exact ⟨e, he, key_int h1⟩
  refine Den.pmap (ents := es) (fun j => .agg #[.func (.func (binFn j)) #[] #[]]) .i64 ?_ ?_ ?_ ?_ ?_ ?_
  · show (match W.heap[b]? with | some (.map es _) => some es | _ => none) = some es
    rw [hb]
  · intro j k sv hj
    have := bin_at j _ hj
    cases this
    exact ⟨_, rfl⟩
  · intro j j' k sv sv' hj hj'
    have e1 := congrArg Prod.fst (bin_at j _ hj)
    have e2 := congrArg Prod.fst (bin_at j' _ hj')
    have e3 : (Value.int .i64 ((j + 3 : Nat) : Int)) = .int .i64 ((j' + 3 : Nat) : Int) := e1.symm.trans e2
    injection e3 with _ e4
    omega
  · intro e he
    obtain ⟨j, k, f0, hj, hk, hv⟩ := all e he
    have e1 := bin_at j _ hj
    refine ⟨j, .agg [.fn (.func f0) [] []], by rw [hk]; exact hj, ?_⟩
    rw [hv]
    have e2 := congrArg Prod.snd e1
    have e2 : (SV.agg [SV.fn (.func f0) [] []] : SV thy) = .agg [.fn (.func (binFn j)) [] []] := e2
    injection e2 with e3
    injection e3 with e4 _
    injection e4 with e5
    rw [e5]
  · intro j k sv hj
    have e1 := congrArg Prod.fst (bin_at j _ hj)
    obtain ⟨e, he, hk⟩ := back j (j + 3) (binFn j) (bin_get j _ hj)
    exact ⟨e, he, hk.trans e1.symm⟩
  · intro j k sv hj
    have e1 := congrArg Prod.snd (bin_at j _ hj)
    have e1 : sv = .agg [.fn (.func (binFn j)) [] []] := e1
    rw [e1]
    refine .agg (fun _ => .func (.func (binFn j)) #[] #[]) rfl (fun q hq => ?_) (fun q sv' hq => ?_)
    · match q, hq with
      | 0, _ => rfl
    · match q, hq with
      | 0, hq =>
        cases hq
        exact .fn (fun _ => undef) (fun _ => undef) rfl (fun q hq => absurd hq (Nat.not_lt_zero _)) (fun q sv hq => by simp at hq) rfl (fun q hq => absurd hq (Nat.not_lt_zero _)) (fun q sv hq => by simp at hq)

/-! The arguments. -/
section
variable {H : Type} {enc : TypeId × Value → H} {w : World} {spare : Nat → Bool} {held : Bool}
theorem cells3 : Tryd.prog.cellsOf 3 = 1 := by kernel_rfl
theorem cells24 : Tryd.prog.cellsOf 24 = 16 := by kernel_rfl
theorem cells26 : Tryd.prog.cellsOf 26 = 17 := by kernel_rfl
theorem cells47 : Tryd.prog.cellsOf 47 = 3 := by kernel_rfl
theorem len3 {cs : List Value} (h : cs.length = 3) : ∃ a b c, cs = [a, b, c] := by
  match cs, h with
  | [a, b, c], _ => exact ⟨a, b, c, rfl⟩
theorem ins_of_trod (fuel : Nat) (cs : List Value) (x : DataW H × List MemPlace) (h : DataW.trod enc Tryd.prog w 0 spare held fuel 47 cs = some x) : ∃ a : Ins, ∀ (j : Nat) sv, (E.enc Th.ins a)[j]? = some sv → ∃ v, cs[j]? = some v ∧ Den E σ0 (gTop w) sv v := by
  obtain ⟨xs, n, rfl, _, hl, hxl, hf⟩ := DataW.trod_struct Tryd.underlying47 h
  rw [cells47] at hl
  obtain ⟨a, b, c, rfl⟩ := len3 hl
  have hx3 : xs.length = 3 := by simpa using hxl
  have h0 := hf 0 _ rfl
  have h1 := hf 1 _ rfl
  have h2 := hf 2 _ rfl
  rw [List.getElem?_eq_getElem (by omega)] at h0 h1 h2
  simp only [List.getElem_toArray, List.getElem_cons_zero, List.getElem_cons_succ, cells3, List.drop_zero, List.drop_succ_cons, List.take_succ_cons, List.take_zero] at h0 h1 h2
  obtain ⟨p, hp, _⟩ := one_int Tryd.underlying3 h0
  obtain ⟨q, hq, _⟩ := one_int Tryd.underlying3 h1
  obtain ⟨r, hr, _⟩ := one_int Tryd.underlying3 h2
  simp only [List.cons.injEq, and_true] at hp hq hr
  subst hp hq hr
  refine ⟨⟨p, q, r⟩, fun j sv hj => ?_⟩
  match j, hj with
  | 0, hj => cases hj; exact ⟨_, rfl, .int _ _ _⟩
  | 1, hj => cases hj; exact ⟨_, rfl, .int _ _ _⟩
  | 2, hj => cases hj; exact ⟨_, rfl, .int _ _ _⟩
theorem num_of_trod (fuel : Nat) (cs : List Value) (x : DataW H × List MemPlace) (h : DataW.trod enc Tryd.prog w 0 spare held fuel 3 cs = some x) : ∃ a : Int, ∀ (j : Nat) sv, (E.enc Th.ints a)[j]? = some sv → ∃ v, cs[j]? = some v ∧ Den E σ0 (gTop w) sv v := by
  obtain ⟨p, rfl, _⟩ := one_int Tryd.underlying3 h
  refine ⟨p, fun j sv hj => ?_⟩
  match j, hj with
  | 0, hj => cases hj; exact ⟨_, rfl, .int _ _ _⟩
set_option maxRecDepth 100000 in
theorem open_code {r : Reach} {b0 : Nat} {v : Value} {d : DataW H} {ps : List MemPlace} (hval : Value.okWide Tryd.prog w r b0 23 v) (h : DataW.Trod enc Tryd.prog w 0 spare held 23 v d ps) : ∃ l : List Ins, Den E σ0 (gTop w) (.psl Th.ins l false) v := by
  obtain ⟨a, len, cap, rfl⟩ := okWide_slice Tryd.underlying23 hval
  obtain ⟨fuel, h⟩ := h
  obtain ⟨sv, l, h1, h2⟩ := psl_of_trod (E := E) (th := Th.ins) (fun _ => rfl) (by decide) Tryd.underlying23 cells47 h (fun n cs' y hy => ins_of_trod n cs' y hy)
  have h1 : [Value.slice a len cap] = [sv] := h1
  cases h1
  exact ⟨l, h2⟩
set_option maxHeartbeats 1000000 in
theorem open_env {v : Value} {d : DataW H} {ps : List MemPlace} (h : DataW.Trod enc Tryd.prog w 0 spare held 26 v d ps) : ∃ x : Env, Den E σ0 (gTop w) (envV x) v := by
  obtain ⟨fuel, h⟩ := h
  obtain ⟨xs, n, rfl, _, hl, hxl, hf⟩ := DataW.trod_struct Tryd.underlying26 h
  rw [cells26] at hl
  have hv := agg_of_cells hl (by decide)
  generalize v.cells.toList = cs at *
  have h0 := hf 0 _ rfl
  have h1 := hf 1 _ rfl
  have hx2 : xs.length = 2 := by simpa using hxl
  rw [List.getElem?_eq_getElem (by omega)] at h0 h1
  simp only [List.getElem_toArray, List.getElem_cons_zero, List.getElem_cons_succ, cells3, cells24, List.drop_zero] at h0 h1
  obtain ⟨p, hp, ip⟩ := one_int Tryd.underlying3 h0
  obtain ⟨ys, m, rfl, _, _, hyl, hg⟩ := DataW.trod_array Tryd.underlying24 h1
  have hall : ∀ i, i < 16 → ∃ n : Int, cs[1 + i]? = some (.int .i64 n) := by
    intro i hi
    have h2 := hg i hi
    rw [List.getElem?_eq_getElem (by omega)] at h2
    simp only [List.getElem_toArray, List.getElem_cons_zero, List.getElem_cons_succ, cells3, Nat.mul_one] at h2
    obtain ⟨n, hn, _⟩ := one_int Tryd.underlying3 h2
    refine ⟨n, ?_⟩
    have h3 : ((((cs.drop 1).take 16).drop i).take 1)[0]? = some (.int .i64 n) := by rw [hn]; rfl
    rw [List.getElem?_take, if_pos (by decide), List.getElem?_drop, List.getElem?_take, if_pos (by omega), List.getElem?_drop] at h3
    simpa using h3
  have hp0 : cs[0]? = some (.int .i64 p) := by
    have h3 : ((cs.take 1))[0]? = some (.int .i64 p) := by rw [hp]; rfl
    rw [List.getElem?_take, if_pos (by decide)] at h3
    exact h3
  obtain ⟨f, hfam⟩ := Go.Deep.choose_lt (α := Int) hall
  rw [hv]
  refine ⟨⟨p, f 0, f 1, f 2, f 3, f 4, f 5, f 6, f 7, f 8, f 9, f 10, f 11, f 12, f 13, f 14, f 15⟩, .agg (fun j => cs.getD j undef) (by simp [hl]) (fun j hj => ?_) (fun j sv hj => ?_)⟩
  · have hj : j < 17 := hj
    rw [List.getElem?_toArray, List.getD_eq_getElem?_getD, List.getElem?_eq_getElem (by omega)]; rfl
  · match j, hj with
    | 0, hj => cases hj; show Den E σ0 (gTop w) (.int false .i64 p) _; rw [List.getD_eq_getElem?_getD, hp0]; exact .int _ _ _
    | 1, hj => cases hj; show Den E σ0 (gTop w) (.int false .i64 (f 0)) _; rw [List.getD_eq_getElem?_getD, show cs[1]? = _ from hfam 0 (by omega)]; exact .int _ _ _
    | 2, hj => cases hj; show Den E σ0 (gTop w) (.int false .i64 (f 1)) _; rw [List.getD_eq_getElem?_getD, show cs[2]? = _ from hfam 1 (by omega)]; exact .int _ _ _
    | 3, hj => cases hj; show Den E σ0 (gTop w) (.int false .i64 (f 2)) _; rw [List.getD_eq_getElem?_getD, show cs[3]? = _ from hfam 2 (by omega)]; exact .int _ _ _
    | 4, hj => cases hj; show Den E σ0 (gTop w) (.int false .i64 (f 3)) _; rw [List.getD_eq_getElem?_getD, show cs[4]? = _ from hfam 3 (by omega)]; exact .int _ _ _
    | 5, hj => cases hj; show Den E σ0 (gTop w) (.int false .i64 (f 4)) _; rw [List.getD_eq_getElem?_getD, show cs[5]? = _ from hfam 4 (by omega)]; exact .int _ _ _
    | 6, hj => cases hj; show Den E σ0 (gTop w) (.int false .i64 (f 5)) _; rw [List.getD_eq_getElem?_getD, show cs[6]? = _ from hfam 5 (by omega)]; exact .int _ _ _
    | 7, hj => cases hj; show Den E σ0 (gTop w) (.int false .i64 (f 6)) _; rw [List.getD_eq_getElem?_getD, show cs[7]? = _ from hfam 6 (by omega)]; exact .int _ _ _
    | 8, hj => cases hj; show Den E σ0 (gTop w) (.int false .i64 (f 7)) _; rw [List.getD_eq_getElem?_getD, show cs[8]? = _ from hfam 7 (by omega)]; exact .int _ _ _
    | 9, hj => cases hj; show Den E σ0 (gTop w) (.int false .i64 (f 8)) _; rw [List.getD_eq_getElem?_getD, show cs[9]? = _ from hfam 8 (by omega)]; exact .int _ _ _
    | 10, hj => cases hj; show Den E σ0 (gTop w) (.int false .i64 (f 9)) _; rw [List.getD_eq_getElem?_getD, show cs[10]? = _ from hfam 9 (by omega)]; exact .int _ _ _
    | 11, hj => cases hj; show Den E σ0 (gTop w) (.int false .i64 (f 10)) _; rw [List.getD_eq_getElem?_getD, show cs[11]? = _ from hfam 10 (by omega)]; exact .int _ _ _
    | 12, hj => cases hj; show Den E σ0 (gTop w) (.int false .i64 (f 11)) _; rw [List.getD_eq_getElem?_getD, show cs[12]? = _ from hfam 11 (by omega)]; exact .int _ _ _
    | 13, hj => cases hj; show Den E σ0 (gTop w) (.int false .i64 (f 12)) _; rw [List.getD_eq_getElem?_getD, show cs[13]? = _ from hfam 12 (by omega)]; exact .int _ _ _
    | 14, hj => cases hj; show Den E σ0 (gTop w) (.int false .i64 (f 13)) _; rw [List.getD_eq_getElem?_getD, show cs[14]? = _ from hfam 13 (by omega)]; exact .int _ _ _
    | 15, hj => cases hj; show Den E σ0 (gTop w) (.int false .i64 (f 14)) _; rw [List.getD_eq_getElem?_getD, show cs[15]? = _ from hfam 14 (by omega)]; exact .int _ _ _
    | 16, hj => cases hj; show Den E σ0 (gTop w) (.int false .i64 (f 15)) _; rw [List.getD_eq_getElem?_getD, show cs[16]? = _ from hfam 15 (by omega)]; exact .int _ _ _
end
section
variable {H : Type} {enc : TypeId × Value → H} {w : World} {spare : Nat → Bool} {held : Bool}
theorem cells32 : Tryd.prog.cellsOf 32 = 1 := by kernel_rfl
theorem cells34 : Tryd.prog.cellsOf 34 = 5 := by kernel_rfl
theorem len5 {cs : List Value} (h : cs.length = 5) : ∃ a b c d e, cs = [a, b, c, d, e] := by
  match cs, h with
  | [a, b, c, d, e], _ => exact ⟨a, b, c, d, e, rfl⟩
set_option maxRecDepth 100000 in
theorem open_state {v : Value} {d : DataW H} {ps : List MemPlace} (h : DataW.Trod enc Tryd.prog w 0 spare held 34 v d ps) : ∃ s : St, Den E σ0 (gTop w) (stV s) v := by
  obtain ⟨fuel, h⟩ := h
  obtain ⟨xs, n, rfl, _, hl, hxl, hf⟩ := DataW.trod_struct Tryd.underlying34 h
  rw [cells34] at hl
  have hv := agg_of_cells hl (by decide)
  generalize v.cells.toList = cs at *
  obtain ⟨a, b, c, d, e, rfl⟩ := len5 hl
  have hx5 : xs.length = 5 := by simpa using hxl
  have h0 := hf 0 _ rfl
  have h1 := hf 1 _ rfl
  have h2 := hf 2 _ rfl
  have h3 := hf 3 _ rfl
  have h4 := hf 4 _ rfl
  rw [List.getElem?_eq_getElem (by omega)] at h0 h1 h2 h3 h4
  simp only [List.getElem_toArray, List.getElem_cons_zero, List.getElem_cons_succ, cells3, cells32, List.drop_zero, List.drop_succ_cons, List.take_succ_cons, List.take_zero] at h0 h1 h2 h3 h4
  obtain ⟨p, hp, _⟩ := one_int Tryd.underlying3 h0
  obtain ⟨q, hq, _⟩ := one_int Tryd.underlying3 h1
  obtain ⟨r, hr, _⟩ := one_int Tryd.underlying3 h2
  obtain ⟨t, ht, _⟩ := one_int Tryd.underlying3 h3
  obtain ⟨sv, l, hsv, hd⟩ := psl_of_trod (E := E) (th := Th.ints) (fun _ => rfl) (by decide) Tryd.underlying32 cells3 h4 (fun n cs' y hy => num_of_trod n cs' y hy)
  simp only [List.cons.injEq, and_true] at hp hq hr ht hsv
  subst hp hq hr ht hsv
  rw [hv]
  refine ⟨⟨p, q, r, t, l⟩, .agg (fun j => [Value.int .i64 p, .int .i64 q, .int .i64 r, .int .i64 t, e].getD j undef) rfl (fun j hj => ?_) (fun j sv hj => ?_)⟩
  · match j, hj with
    | 0, _ => rfl
    | 1, _ => rfl
    | 2, _ => rfl
    | 3, _ => rfl
    | 4, _ => rfl
  · match j, hj with
    | 0, hj => cases hj; exact .int _ _ _
    | 1, hj => cases hj; exact .int _ _ _
    | 2, hj => cases hj; exact .int _ _ _
    | 3, hj => cases hj; exact .int _ _ _
    | 4, hj => cases hj; exact hd
end
theorem ext_of_stp {g g' : GH} {w w' : World} (h : Stp 0 0 [] σ0 g w σ0 g' w') : Ext w w' := ⟨h.os, h.tape, h.output, h.size, fun k hk => h.heap k hk (by simp)⟩
set_option maxRecDepth 100000 in
theorem law_calls {f : FuncId} {args : List (SV thy)} (hp : PureC E f args (.bool false true)) {W : World} (hL : laidMetH Tryd.prog laidB W) {vals : Array Value} (hd : DenL E σ0 (gTop W) args vals.toList) : Calls Tryd.prog f vals W fun en W' => en = .returned (.bool true) ∧ Ext W W' := by
  have hI : Inv E W.heap.size σ0 hp0 (gTop W) W := inv_top fun n sv hn => by
    match n, hn with
    | 0, hn => cases hn; exact of_laid hL
  refine (hp _ W vals hI hd).mono ?_
  rintro en w' ⟨u, rfl, g', hS, _, hv⟩
  cases hv
  exact ⟨rfl, ext_of_stp hS⟩
theorem denL1 {g : GH} {s0 : SV thy} {v0 : Value} (h0 : Den E σ0 g s0 v0) : DenL E σ0 g [s0] [v0] := ⟨rfl, fun j sv v h1 h2 => by
  match j, h1, h2 with
  | 0, h1, h2 => cases h1; cases h2; exact h0⟩
theorem denL_cons {g : GH} {s0 : SV thy} {v0 : Value} {ss : List (SV thy)} {vs : List Value} (h0 : Den E σ0 g s0 v0) (h : DenL E σ0 g ss vs) : DenL E σ0 g (s0 :: ss) (v0 :: vs) := ⟨by simp [h.1], fun j sv v h1 h2 => by
  cases j with
  | zero => cases h1; cases h2; exact h0
  | succ j => exact h.2 j sv v h1 h2⟩
set_option maxRecDepth 100000 in
theorem door_met (os : Os) (args : Array Value) : laidMetH Tryd.prog laidB ((World.doorLaid Tryd.prog 600 os).forCall (fun _ _ => 0) ⟨#[], args, []⟩).memory :=
  laidMetH_of_parts3 (fuel := 8) (laidMet_of_run' 8 (by kernel_rfl) (by kernel_rfl)) (by kernel_rfl) (by kernel_rfl)
end Go.Proofs.YtcaomfbcchemnaaDoor
