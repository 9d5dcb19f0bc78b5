/- Maps with int keys whose entries are known: an insertion into the newest block, a lookup. -/
import Derived.Test.YtophdbbbojnobaaMem
import Derived.Test.YtophdbbbojnobaaRegion
namespace Go.Proofs.Ytophdbbbojnobaa
open Go.RowKit
set_option linter.unusedVariables false

section
variable {P : Program} {ops : Array Oper} {Q : Exit → Act → World → Prop} {a : Act} {rest : List Oper} {o : Oper}

theorem run_checkKey_int (b : Bool) (n kt : Nat) (k : Int) (w : World) (hkt : P.underlying kt = some (.int .i64)) : (Instr.checkKey b (n + 1) kt (.int .i64 k)).run P w = .ok () w := by
  unfold Instr.checkKey
  rw [Sem.run_bind, run_underlying hkt w]
  rfl
theorem run_findKey_int (kt : Nat) (k : Int) (es : List MapEntry) (res : Option (Nat × Value)) (w : World) (hkt : P.underlying kt = some (.int .i64)) (hf : Instr.findNow (.int .i64) (.int .i64 k) es 0 = some res) :
    (Instr.findKey kt (.int .i64 k) es).run P w = .ok res w := by
  unfold Instr.findKey
  rw [Sem.run_bind, run_underlying hkt w]
  simp only [Result.andThen_ok, hf]
  rfl
theorem run_getObj_map (w : World) (r : Nat) (es : Array MapEntry) (c : Nat) (hg : w.heap[r]? = some (.map es c)) : (getObj r).run P w = .ok (.map es c) w := by
  simp [getObj, Sem.run, hg]

theorem run_insert_last (w1 : World) (T kt et : TypeId) (es : Array MapEntry) (c : Nat) (k : Int) (v : Value) (r : Nat) (hr : r = w1.heap.size) (hT : P.underlying T = some (.map kt et)) (hkt : P.underlying kt = some (.int .i64))
    (hf : Instr.findNow (.int .i64) (.int .i64 k) es.toList 0 = some none) :
    (Instr.mapUpdate T (.map (some r)) (.int .i64 k) v).run P (w1.alloc (.map es c)) = .ok () (w1.alloc (.map (es.push ⟨.int .i64 k, v, c⟩) (c + 1))) := by
  subst hr
  have hg : (w1.alloc (.map es c)).heap[w1.heap.size]? = some (.map es c) := heap_alloc_new w1 _
  have hs : ({ (w1.alloc (.map es c)) with heap := (w1.alloc (.map es c)).heap.setIfInBounds w1.heap.size (.map (es.push ⟨.int .i64 k, v, c⟩) (c + 1)) } : World) = w1.alloc (.map (es.push ⟨.int .i64 k, v, c⟩) (c + 1)) := by
    have he : (w1.alloc (.map es c)).heap.setIfInBounds w1.heap.size (.map (es.push ⟨.int .i64 k, v, c⟩) (c + 1)) = (w1.alloc (.map (es.push ⟨.int .i64 k, v, c⟩) (c + 1))).heap := by
      apply Array.ext_getElem?
      intro i
      show ((w1.heap.push _).setIfInBounds _ _)[i]? = (w1.heap.push _)[i]?
      rw [Array.getElem?_setIfInBounds, Array.getElem?_push, Array.getElem?_push]
      by_cases hi : w1.heap.size = i
      · subst hi; simp
      · rw [if_neg hi, if_neg (by omega), if_neg (by omega)]
    rw [he]
    rfl
  unfold Instr.mapUpdate
  rw [Sem.run_bind, run_underlying hT]
  simp only [Result.andThen_ok]
  rw [Sem.run_bind, run_getObj_map _ _ _ _ hg]
  simp only [Result.andThen_ok]
  rw [Sem.run_bind, run_checkKey_int false 9999 kt k _ hkt]
  simp only [Result.andThen_ok]
  rw [Sem.run_bind, run_findKey_int kt k _ none _ hkt hf]
  simp only [Result.andThen_ok]
  rw [← hs]
  simp only [setObj, Sem.run, hg]

theorem wpList_insert_last (hgd : o.guard = none) (T : TypeId) (m kx vx : Operand) (ho : o.op = .insert T m kx vx) (w1 : World) (kt et : TypeId) (es : Array MapEntry) (c : Nat) (k : Int) (v : Value) (r : Nat)
    (hm : a.eval m = .map (some r)) (hr : r = w1.heap.size) (hk : a.eval kx = .int .i64 k) (hv : a.eval vx = v) (hT : P.underlying T = some (.map kt et)) (hkt : P.underlying kt = some (.int .i64))
    (hf : Instr.findNow (.int .i64) (.int .i64 k) es.toList 0 = some none)
    (h : wpList P ops Q rest (a.put o.dst undef) (w1.alloc (.map (es.push ⟨.int .i64 k, v, c⟩) (c + 1)))) : wpList P ops Q (o :: rest) a (w1.alloc (.map es c)) :=
  wpList_plain hgd fun K hK => by
    unfold Oper.wp execOp
    simp only [ho, hm, hk, hv, Sem.run_bind, run_insert_last w1 T kt et es c k v r hr hT hkt hf, Result.andThen_ok, Sem.run_pure]
    exact hK _ _ h

theorem run_lookup_at (w : World) (T kt et : TypeId) (es : Array MapEntry) (c : Nat) (k : Int) (v : Value) (i r : Nat) (hT : P.underlying T = some (.map kt et)) (hkt : P.underlying kt = some (.int .i64))
    (hg : w.heap[r]? = some (.map es c)) (hf : Instr.findNow (.int .i64) (.int .i64 k) es.toList 0 = some (some (i, v))) :
    (Instr.lookup T (.map (some r)) (.int .i64 k) false).run P w = .ok v w := by
  unfold Instr.lookup
  rw [Sem.run_bind, run_underlying hT]
  simp only [Result.andThen_ok]
  rw [Sem.run_bind, run_getObj_map _ _ _ _ hg]
  simp only [Result.andThen_ok]
  rw [Sem.run_bind]
  simp only [Sem.run_pure, Result.andThen_ok]
  rw [Sem.run_bind, run_checkKey_int _ 9999 kt k _ hkt]
  simp only [Result.andThen_ok]
  rw [Sem.run_bind, run_findKey_int kt k _ _ _ hkt hf]
  rfl

/-- a lookup in a map that every later world still holds -/
theorem ord_lookup {W : World} (hw : Region.wanted o (yielded ops a.tmps) = true) (T : TypeId) (m kx : Operand) (ho : o.op = .lookup T m kx false) (kt et : TypeId) (es : Array MapEntry) (c : Nat) (k : Int) (v : Value) (i r : Nat)
    (hm : a.eval m = .map (some r)) (hk : a.eval kx = .int .i64 k) (hT : P.underlying T = some (.map kt et)) (hkt : P.underlying kt = some (.int .i64))
    (hg : W.heap[r]? = some (.map es c)) (hr : r < W.heap.size) (hf : Instr.findNow (.int .i64) (.int .i64 k) es.toList 0 = some (some (i, v))) : YieldsIf P ops (Ext W) o v a :=
  .inl ⟨hw, fun w h => by
    unfold execOp
    simp only [ho, hm, hk, Sem.run_bind, run_lookup_at w T kt et es c k v i r hT hkt ((h.block hr).trans hg) hf, Result.andThen_ok, Sem.run_pure]⟩
end
end Go.Proofs.Ytophdbbbojnobaa
