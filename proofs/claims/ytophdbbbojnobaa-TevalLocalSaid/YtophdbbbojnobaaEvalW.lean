/- What Eval, Holds and Amount of teval return. -/
import Derived.Test.YtophdbbbojnobaaProg
import Derived.Test.YtophdbbbojnobaaEvalV
import Derived.Defers
import Derived.Recover
import Derived.LaidEql
namespace Go.Proofs.Ytophdbbbojnobaa
open Go.RowKit
set_option linter.unusedVariables false

set_option maxHeartbeats 1000000 in
theorem caught_idle (p : Addr) (w : World) :
    CallsD Try.prog 29 #[.pointer (some p)] .returning w fun en u' w' => en = .returned (.tuple #[]) ∧ u' = .returning ∧ w = w' := by
  refine callsD_of_wpS Try.func29 rfl fun c₀ cs hu => ?_
  apply wpS_seq
  apply wpS_region
  simp [wpOpsS, go_sem, recoverD, hu, Try.ntmps29, Exit.thenS]
  simp only [List.size_toArray, List.length_cons, List.length_nil, Nat.reduceAdd, Nat.reduceSub, Array.replicate_succ, Array.replicate_zero, List.push_toArray, List.append_toArray, List.nil_append, List.cons_append, List.setIfInBounds_toArray, List.set_cons_zero, List.set_cons_succ]
  refine wpS_of_wp ?_
  go_wp2_with fail
  exact ⟨rfl, .returning, by cases c₀; simp_all, _, results_none rfl _ _ _, rfl, rfl, rfl⟩

theorem assert_fault (v : Value) (w : World) : (Instr.typeAssert (.iface 73 v) 20 73 true).run Try.prog w = .ok (.tuple #[v, .bool true]) w := by kernel_rfl

set_option maxHeartbeats 1000000 in
theorem caught_fault (p : Addr) (x e : Int) (w : World) (hc : w.cell? p = some (.int .i64 x)) (hz : w.frozen? p = false) (hb : p.block < w.heap.size) :
    CallsD Try.prog 29 #[.pointer (some p)] (.panicking (fchain e)) w fun en u' w' => en = .returned (.tuple #[]) ∧ u' = .panicking [{ v := fault e, recovered := true }] ∧
      w' = (w.alloc (.cells #[.int .i64 e] 73)).setCell p (.int .i64 e) := by
  refine callsD_of_wpS Try.func29 rfl fun c₀ cs hu => ?_
  unfold fchain at hu
  apply wpS_seq
  apply wpS_region
  simp [wpOpsS, go_sem, recoverD, hu, Try.ntmps29, Exit.thenS]
  simp only [List.size_toArray, List.length_cons, List.length_nil, Nat.reduceAdd, Nat.reduceSub, Array.replicate_succ, Array.replicate_zero, List.push_toArray, List.append_toArray, List.nil_append, List.cons_append, List.setIfInBounds_toArray, List.set_cons_zero, List.set_cons_succ]
  refine wpS_of_wp ?_
  unfold fault
  have hta := assert_fault
  have hc' : ∀ o, (w.alloc o).cell? p = some (.int .i64 x) := fun o => by rw [World.cell?_alloc_lt w o p hb]; exact hc
  have hz' : ∀ o, (w.alloc o).frozen? p = false := fun o => by rw [World.frozen?_alloc_old w o p (by omega)]; exact hz
  go_wp2_with fail
  exact ⟨rfl, _, rfl, _, results_none rfl _ _ _, rfl, rfl, rfl⟩

theorem leaves_congr {P : Program} {fn : Func} {t t' : Array Value} {R : Ending → World → Prop} (h : ∀ w, (results fn t).run P w = (results fn t').run P w) :
    ∀ (ds : List Deferred) (u : FrameMode) (w : World), Leaves P fn t R ds u w → Leaves P fn t' R ds u w
  | [], .returning, w, ⟨v, hv, hR⟩ => ⟨v, (h w).symm.trans hv, hR⟩
  | [], .panicking _, w, hh => hh
  | [], .run, _, hh => hh.elim
  | d :: ds, u, w, ⟨h1, fv, cap, f, args, h2, h3, h4⟩ => ⟨h1, fv, cap, f, args, h2, h3, h4.mono fun e u' w' hh => by
      cases e with
      | returned v => exact leaves_congr h ds _ _ hh
      | panicked c => exact leaves_congr h ds _ _ hh
      | outgrown => exact hh⟩

theorem bodyPostD_panic {P : Program} {fn : Func} {R : Ending → World → Prop} {c : List PanicEntry} {a : Act} {d : Option Tmp} {v : Value} {w : World}
    (h : ∀ W, (results fn (a.put d v).tmps).run P W = (results fn a.tmps).run P W) (hq : bodyPostD P fn R (.panic c) (a.put d v) w) : bodyPostD P fn R (.panic c) a w := by
  have : (a.put d v).defers = a.defers := by cases d <;> rfl
  refine leaves_congr h _ _ _ ?_
  rw [← this]
  exact hq

set_option maxHeartbeats 1000000 in
theorem EvalT_no (x : Ev) (d : Nat) (cs : List Value) (e : Ex) (w : World) (he : ExIn w d cs e) (hf : formF 24 e = false) :
    Calls Try.prog 11 #[.agg cs.toArray, .agg x.cells.toArray] w fun en w' => en = .returned (.tuple #[.int .i64 0, .int .i64 1]) ∧ Ext w w' := by
  have hfm := fun (W : World) (h : Ext w W) => formT_any 24 d cs e W (by omega) (he.ext h)
  rw [hf] at hfm
  have HF := Lib.hid hfm
  obtain ⟨A, cap, u0, u1, u2, u3, rfl, _⟩ := he.open_
  clear hfm he
  go_enter_defers Try.func11, Try.ntmps11
  go_wp2_with fail
  refine (HF.out _ ((((Ext.refl _).alloc _).alloc _).alloc _)).mono ?_
  rintro e1 w1 ⟨rfl, hx1⟩
  have hx := ((((Ext.refl w).alloc _).alloc _).alloc _).trans hx1
  have hc5 := hx1.cell (p := ⟨w.heap.size + 1 + 1, 0, none⟩) (v := .int .i64 0) (by simp [go_sem])
  have hz5 := hx1.frozen_eq (p := ⟨w.heap.size + 1 + 1, 0, none⟩) (by simp)
  have hz5' : w1.frozen? ⟨w.heap.size + 1 + 1, 0, none⟩ = false := by rw [hz5]; simp [go_sem]
  clear hx1 hz5
  go_wp2_with fail
  have hsame : (w1.setCell ⟨w.heap.size + 1 + 1, 0, none⟩ (.int .i64 1)).cell? ⟨w.heap.size + 1 + 1, 0, none⟩ = some (.int .i64 1) := World.cell?_setCell_same' _ _ _ (by rw [hc5]; rfl)
  exact ⟨.tuple #[.int .i64 0, .int .i64 1], by simp [results, Try.results11, go_sem, hsame], rfl, hx.setCell (by simp; omega) _⟩

set_option maxHeartbeats 2000000 in
theorem EvalT_yes (x : Ev) (hxo : x.ok) (d : Nat) (cs : List Value) (e : Ex) (w : World) (he : ExIn w d cs e) (hf : formF 24 e = true) :
    Calls Try.prog 11 #[.agg cs.toArray, .agg x.cells.toArray] w fun en w' => en = .returned (.tuple #[.int .i64 (if (evalF 24 e x).2 = 0 then (evalF 24 e x).1 else 0), .int .i64 (evalF 24 e x).2]) ∧ Ext w w' := by
  have hfm := fun (W : World) (h : Ext w W) => formT_any 24 d cs e W (by omega) (he.ext h)
  rw [hf] at hfm
  have HF := Lib.hid hfm
  have hev := fun (X : Nat) (W : World) (h : Ext w W) (hX : EvAt W X x) => evalT_any x hxo 24 d cs e X W hf (he.ext h) hX
  have HEV := Lib.hid hev
  have hl7 := he.len
  have hxl : x.cells.length = 17 := by simp [Ev.cells, hxo.1]
  have HL7 := Lib.hid hl7
  have HXL := Lib.hid hxl
  obtain ⟨r, hr⟩ : ∃ r, evalF 24 e x = r := ⟨_, rfl⟩
  rw [hr] at HEV ⊢
  clear hfm hev hr hl7 hxl
  obtain ⟨A, cap, u0, u1, u2, u3, rfl, _⟩ := he.open_
  clear he
  go_enter_defers Try.func11, Try.ntmps11
  go_wp2_with fail
  refine (HF.out _ ((((Ext.refl _).alloc _).alloc _).alloc _)).mono ?_
  rintro e1 w1 ⟨rfl, hx1⟩
  have hx := ((((Ext.refl w).alloc _).alloc _).alloc _).trans hx1
  have hc5 := hx1.cell (p := ⟨w.heap.size + 1 + 1, 0, none⟩) (v := .int .i64 0) (by simp [go_sem])
  have hz5 := hx1.frozen_eq (p := ⟨w.heap.size + 1 + 1, 0, none⟩) (by simp)
  have hz5' : w1.frozen? ⟨w.heap.size + 1 + 1, 0, none⟩ = false := by rw [hz5]; simp [go_sem]
  have hsz := hx1.size
  simp at hsz
  have hr3 : w1.rangeAt (w.heap.size + 1) 0 x.cells := hx1.range (by intro j v hv; simp [go_sem, hv])
  have hr2 : w1.rangeAt (w.heap.size) 0 [.int .i64 e.op, .int .i64 e.n, .int .i64 u0, .int .i64 u1, .int .i64 u2, .int .i64 u3, .slice A e.l.length cap] := hx1.range (by intro j v hv; simp [go_sem] at hv ⊢; exact hv)
  clear hx1 hz5
  go_wp2_with fail
  refine wp_region_ordD [(0, true), (2, true), (1, false), (3, false), (4, false), (5, false)] (Below (w.heap.size + 2) w1) (by kernel_rfl) (by kernel_rfl) ?_ (Below.refl _ _).drew ?_
  · intro p hp hp2 o ho c a w' v hq
    have hcase : o.dst = some 9 ∨ o.dst = some 11 := by
      simp only [List.mem_cons, List.not_mem_nil, or_false] at hp
      rcases hp with rfl | rfl | rfl | rfl | rfl | rfl
      · simp at ho; subst ho; exact .inl rfl
      · simp at ho; subst ho; exact .inr rfl
      all_goals cases hp2
    have hres : ∀ (k : Nat) (W : World), k ≠ 4 → k ≠ 5 → (results Try.f11 (a.tmps.setIfInBounds k v)).run Try.prog W = (results Try.f11 a.tmps).run Try.prog W := by
      intro k W h4 h5
      have e : ∀ j, j ≠ k → (a.tmps.setIfInBounds k v)[j]? = a.tmps[j]? := fun j hj => by
        simp only [Array.getElem?_setIfInBounds, if_neg (Ne.symm hj)]
      simp only [results, Try.results11, List.size_toArray]
      simp [e 4 (Ne.symm h4), e 5 (Ne.symm h5)]
    refine bodyPostD_panic (P := Try.prog) (fn := Try.f11) (d := o.dst) (v := v) ?_ hq
    intro W
    rcases hcase with h | h <;> rw [h]
    · exact hres 9 W (by omega) (by omega)
    · exact hres 11 W (by omega) (by omega)
  refine ⟨_, _, rfl, yieldsIf_load_mid (by rfl) _ _ rfl (w.heap.size + 1) _ rfl x.cells _ (fun W h j v hv => (h.cell (by simp)).trans (hr3 j v hv)) Try.underlying29 rfl (by rw [HXL.out]; exact info_env), ?_⟩
  try simp only [Act.put, List.getElem_toArray, List.getElem_cons_zero, List.getElem_cons_succ, List.setIfInBounds_toArray, List.set_cons_zero, List.set_cons_succ]
  refine ⟨_, _, rfl, yieldsIf_load_mid (by rfl) _ _ rfl (w.heap.size) _ rfl _ _ (fun W h j v hv => (h.cell (by simp)).trans (hr2 j v hv)) Try.underlying26 rfl info_expr, ?_⟩
  try simp only [Act.put, List.getElem_toArray, List.getElem_cons_zero, List.getElem_cons_succ, List.setIfInBounds_toArray, List.set_cons_zero, List.set_cons_succ]
  refine ⟨_, rfl, by rfl, ?_⟩
  try simp only [List.getElem_toArray, List.getElem_cons_zero, List.getElem_cons_succ]
  go_step
  refine (newEv_any x _ hxo).mono ?_
  rintro e1 w2 ⟨rfl, hx2, hX⟩
  have hx12 : Ext w1 w2 := (Ext.refl _).drew.trans hx2
  refine ⟨Below.mono hx12 (by omega), ?_⟩
  try simp only [Act.put, List.getElem_toArray, List.getElem_cons_zero, List.getElem_cons_succ, List.setIfInBounds_toArray, List.set_cons_zero, List.set_cons_succ]
  have hcall := HEV.out _ _ (hx.trans hx12) hX
  have HCALL := Lib.hid hcall
  clear hcall hX hx2
  generalize w1.drew.heap.size + 1 = X at *
  refine ⟨_, rfl, by rfl, ?_⟩
  try simp only [List.getElem_toArray, List.getElem_cons_zero, List.getElem_cons_succ]
  go_step
  refine HCALL.out.mono ?_
  rintro e1 w3 ⟨⟨hz, rfl⟩ | ⟨hz, rfl⟩, hx3⟩
  · have HZ := Lib.hid hz
    clear hz
    have hx13 := hx12.trans hx3
    have hc5' := hx13.cell hc5
    have hz5'' : w3.frozen? ⟨w.heap.size + 1 + 1, 0, none⟩ = false := by rw [hx13.frozen_eq (by simp; omega)]; exact hz5'
    refine ⟨Below.mono hx13 (by omega), ?_⟩
    try simp only [Act.put, List.getElem_toArray, List.getElem_cons_zero, List.getElem_cons_succ, List.setIfInBounds_toArray, List.set_cons_zero, List.set_cons_succ]
    refine ⟨_, rfl, by rfl, ?_⟩
    try simp only [List.getElem_toArray, List.getElem_cons_zero, List.getElem_cons_succ]
    go_step
    refine ⟨Below.mono hx13 (by omega), ?_⟩
    try simp only [Act.put, List.getElem_toArray, List.getElem_cons_zero, List.getElem_cons_succ, List.setIfInBounds_toArray, List.set_cons_zero, List.set_cons_succ]
    refine ⟨_, rfl, by rfl, ?_⟩
    try simp only [List.getElem_toArray, List.getElem_cons_zero, List.getElem_cons_succ]
    go_step
    refine ⟨(Below.mono hx13 (by omega)).setCell (by simp) _, ?_⟩
    try simp only [Act.put, List.getElem_toArray, List.getElem_cons_zero, List.getElem_cons_succ, List.setIfInBounds_toArray, List.set_cons_zero, List.set_cons_succ]
    simp only [wpOrd]
    go_wp2_with fail
    have hsame : (w3.setCell ⟨w.heap.size + 1 + 1, 0, none⟩ (.int .i64 0)).cell? ⟨w.heap.size + 1 + 1, 0, none⟩ = some (.int .i64 0) := World.cell?_setCell_same' _ _ _ (by rw [hc5']; rfl)
    refine leaves_cons (f := 29) (args := #[.pointer (some ⟨w.heap.size + 1 + 1, 0, none⟩)]) (by simp) (by simp [go_sem]) ((caught_idle _ _).mono ?_)
    rintro en u' w'' ⟨rfl, rfl, rfl⟩
    exact ⟨.tuple #[.int .i64 r.1, .int .i64 0], by simp [results, Try.results11, go_sem, hsame], ret_int2 (by first | rfl | rw [if_pos HZ.out]) (by first | rfl | exact HZ.out.symm), (hx.trans hx13).setCell (by simp; omega) _⟩
  · have HZ := Lib.hid hz
    clear hz
    have hx13 := hx12.trans hx3
    have hc5' := hx13.cell hc5
    have hz5'' : w3.frozen? ⟨w.heap.size + 1 + 1, 0, none⟩ = false := by rw [hx13.frozen_eq (by simp; omega)]; exact hz5'
    go_wp2_with fail
    have hlt : w.heap.size + 1 + 1 < w3.heap.size := by have := hx13.size; omega
    refine leaves_cons (f := 29) (args := #[.pointer (some ⟨w.heap.size + 1 + 1, 0, none⟩)]) (by simp) (by simp [go_sem]) ((caught_fault _ 0 r.2 _ hc5' hz5'' hlt).mono ?_)
    rintro en u' w'' ⟨rfl, rfl, rfl⟩
    have hsame : ((w3.alloc (.cells #[.int .i64 r.2] 73)).setCell ⟨w.heap.size + 1 + 1, 0, none⟩ (.int .i64 r.2)).cell? ⟨w.heap.size + 1 + 1, 0, none⟩ = some (.int .i64 r.2) :=
      World.cell?_setCell_same' _ _ _ (by rw [World.cell?_alloc_lt w3 _ _ hlt, hc5']; rfl)
    simp only [settle, List.dropWhile]
    exact ⟨.tuple #[.int .i64 0, .int .i64 r.2], by simp [results, Try.results11, go_sem, hsame], ret_int2 (by first | rfl | rw [if_neg HZ.out]) rfl, ((hx.trans hx13).alloc _).setCell (by simp; omega) _⟩

/-- Eval of teval: for every expression and attributes. -/
theorem EvalT_any (x : Ev) (hx : x.ok) (d : Nat) (cs : List Value) (e : Ex) (w : World) (he : ExIn w d cs e) :
    Calls Try.prog 11 #[.agg cs.toArray, .agg x.cells.toArray] w fun en w' => en = .returned (.tuple #[.int .i64 (EvalF e x).1, .int .i64 (EvalF e x).2]) ∧ Ext w w' := by
  unfold EvalF
  cases hf : formF 24 e
  · simpa using EvalT_no x d cs e w he hf
  · simp only [if_true]
    refine (EvalT_yes x hx d cs e w he hf).mono fun en w' ⟨h1, h2⟩ => ⟨?_, h2⟩
    rw [h1]
    by_cases hz : (evalF 24 e x).2 = 0
    · rw [if_pos hz]
    · rw [if_neg hz, evalF_err 24 e x hz]

/-- Eval of the reference: for every expression and attributes. -/
theorem EvalR_any (x : Ev) (hx : x.ok) (d : Nat) (cs : List Value) (e : Ex) (w : World) (he : ExIn w d cs e) :
    Calls Try.prog 12 #[.agg cs.toArray, .agg x.cells.toArray] w fun en w' => en = .returned (.tuple #[.int .i64 (EvalF e x).1, .int .i64 (EvalF e x).2]) ∧ Ext w w' := by
  obtain ⟨r, hr⟩ : ∃ r, EvalF e x = r := ⟨_, rfl⟩
  rw [hr]
  have hfm := fun (W : World) (h : Ext w W) => formR_any 24 d cs e W (by omega) (he.ext h)
  have HL7 := Lib.hid he.len
  have HXL := Lib.hid (show x.cells.length = 17 by simp [Ev.cells, hx.1])
  have HR := Lib.hid hr
  clear hr
  cases hf : formF 24 e
  · rw [hf] at hfm
    have HF := Lib.hid hfm
    have HR2 := Lib.hid (show r = (0, 1) by rw [← HR.out]; unfold EvalF; rw [hf]; rfl)
    obtain ⟨A, cap, u0, u1, u2, u3, rfl, _⟩ := he.open_
    clear he hfm hf
    go_enter Try.func12, Try.ntmps12
    go_wp2_with fail
    refine (HF.out _ (by first | exact Ext.refl _ | exact (Ext.refl _).alloc _ | exact ((Ext.refl _).alloc _).alloc _)).mono ?_
    rintro e1 w1 ⟨rfl, hx1⟩
    go_wp2_with fail
    go_ret2
    exact ⟨ret_int2 (by rw [HR2.out]) (by rw [HR2.out]), (by first | exact hx1 | exact ((Ext.refl _).alloc _).trans hx1 | exact (((Ext.refl _).alloc _).alloc _).trans hx1)⟩
  · rw [hf] at hfm
    have HF := Lib.hid hfm
    have HR2 := Lib.hid (show r = evalF 24 e x by rw [← HR.out]; unfold EvalF; rw [hf]; rfl)
    have hev := fun (W : World) (h : Ext w W) => evalR_any x hx 24 d cs e W hf (he.ext h)
    rw [← HR2.out] at hev
    have HEV := Lib.hid hev
    obtain ⟨A, cap, u0, u1, u2, u3, rfl, _⟩ := he.open_
    clear he hfm hf hev
    go_enter Try.func12, Try.ntmps12
    go_wp2_with fail
    refine (HF.out _ (((Ext.refl _).alloc _).alloc _)).mono ?_
    rintro e1 w1 ⟨rfl, hx1⟩
    have hx := (((Ext.refl w).alloc _).alloc _).trans hx1
    have hr3 : w1.rangeAt (w.heap.size + 1) 0 x.cells := hx1.range (by intro j v hv; simp [go_sem, hv])
    have hr2 : w1.rangeAt (w.heap.size) 0 [.int .i64 e.op, .int .i64 e.n, .int .i64 u0, .int .i64 u1, .int .i64 u2, .int .i64 u3, .slice A e.l.length cap] := hx1.range (by intro j v hv; simp [go_sem] at hv ⊢; exact hv)
    clear hx1
    go_wp2_with (first
      | (refine wpList_load_mid rfl 26 _ rfl (w.heap.size) 0 rfl _ _ hr2 Try.underlying26 rfl info_expr ?_)
      | (refine wpList_load_mid rfl 29 _ rfl (w.heap.size + 1) 0 rfl x.cells _ hr3 Try.underlying29 rfl (by rw [HXL.out]; exact info_env) ?_))
    refine (HEV.out _ hx).mono ?_
    rintro e2 w2 ⟨rfl, hx2⟩
    go_wp2_with fail
    go_ret2
    exact ⟨ret_int2 rfl rfl, hx.trans hx2⟩
end Go.Proofs.Ytophdbbbojnobaa
