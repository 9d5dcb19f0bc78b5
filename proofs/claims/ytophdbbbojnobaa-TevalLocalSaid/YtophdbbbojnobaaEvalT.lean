/- What teval's evaluation of expressions returns, or the fault with which it panics. -/
import Derived.Test.YtophdbbbojnobaaProg
import Derived.Test.YtophdbbbojnobaaEvalR
import Derived.Test.YtophdbbbojnobaaMapFn
namespace Go.Proofs.Ytophdbbbojnobaa
open Go.RowKit
set_option linter.unusedVariables false

/-- the map of an evaluator that lies in block X: each operation's method value -/
def opMap (X : Nat) : Array MapEntry := #[⟨.int .i64 3, .func (.func 41) #[.pointer (some ⟨X, 0, none⟩)] #[], 0⟩, ⟨.int .i64 4, .func (.func 42) #[.pointer (some ⟨X, 0, none⟩)] #[], 1⟩, ⟨.int .i64 5, .func (.func 43) #[.pointer (some ⟨X, 0, none⟩)] #[], 2⟩, ⟨.int .i64 6, .func (.func 44) #[.pointer (some ⟨X, 0, none⟩)] #[], 3⟩, ⟨.int .i64 7, .func (.func 45) #[.pointer (some ⟨X, 0, none⟩)] #[], 4⟩, ⟨.int .i64 8, .func (.func 46) #[.pointer (some ⟨X, 0, none⟩)] #[], 5⟩, ⟨.int .i64 9, .func (.func 47) #[.pointer (some ⟨X, 0, none⟩)] #[], 6⟩, ⟨.int .i64 10, .func (.func 48) #[.pointer (some ⟨X, 0, none⟩)] #[], 7⟩, ⟨.int .i64 11, .func (.func 49) #[.pointer (some ⟨X, 0, none⟩)] #[], 8⟩]
/-- The pointer to block X is an evaluator for the attributes x. -/
def EvAt (w : World) (X : Nat) (x : Ev) : Prop := ∃ M, w.heap[X]? = some (.cells (x.cells ++ [Value.map (some M)]).toArray 76 (0, 0)) ∧ w.heap[M]? = some (.map (opMap X) 9)
theorem EvAt.ext {w w' : World} (hx : Ext w w') {X : Nat} {x : Ev} (h : EvAt w X x) : EvAt w' X x := by
  obtain ⟨M, h1, h2⟩ := h
  have lt : ∀ {k : Nat} {o : Obj}, w.heap[k]? = some o → k < w.heap.size := fun {k o} h => by
    rcases Nat.lt_or_ge k w.heap.size with h' | h'
    · exact h'
    · rw [Array.getElem?_eq_none h'] at h; cases h
  exact ⟨M, (hx.block (lt h1)).trans h1, (hx.block (lt h2)).trans h2⟩

theorem heap3 (w : World) (A B C : Obj) : (((w.alloc A).alloc B).alloc C).heap[w.heap.size + 1]? = some B ∧ (((w.alloc A).alloc B).alloc C).heap[w.heap.size + 1 + 1]? = some C := by
  constructor
  · show (((w.heap.push A).push B).push C)[w.heap.size + 1]? = _
    rw [Array.getElem?_push, if_neg (by simp), Array.getElem?_push, if_pos (by simp)]
  · show (((w.heap.push A).push B).push C)[w.heap.size + 1 + 1]? = _
    rw [Array.getElem?_push, if_pos (by simp)]

theorem foldl_cells (cs : List Value) : ∀ (k : Nat) (A : Array Value), k + cs.length ≤ A.size →
    (cs.zipIdx k).foldl (fun cs x => cs.setIfInBounds x.2 x.1) A = (A.toList.take k ++ cs ++ A.toList.drop (k + cs.length)).toArray := by
  induction cs with
  | nil => intro k A _; simp
  | cons c cs ih =>
    intro k A h
    simp only [List.length_cons] at h
    rw [List.zipIdx_cons, List.foldl_cons, ih (k + 1) _ (by simp; omega)]
    have hk : k < A.toList.length := by simp; omega
    congr 1
    simp only [Array.toList_setIfInBounds, List.length_cons]
    rw [List.take_succ_eq_append_getElem (by simpa using hk), List.take_set_of_le (by omega), List.getElem_set_self, List.drop_set_of_lt (by omega)]
    simp [Nat.add_assoc, Nat.add_comm 1]

set_option maxHeartbeats 1000000 in
theorem newEv_any (x : Ev) (w : World) (hx : x.ok) :
    Calls Try.prog 30 #[.agg x.cells.toArray] w fun en w' => en = .returned (.pointer (some ⟨w.heap.size + 1, 0, none⟩)) ∧ Ext w w' ∧ EvAt w' (w.heap.size + 1) x := by
  have hmm := @run_makeMap Try.prog
  have hmf : ∀ (fn : Fn) (first cap : Array Value) (w : World), (Instr.makeFunc fn first cap).run Try.prog w = .ok (.func fn first cap) w := fun _ _ _ _ => rfl
  have hxl : x.cells.length = 17 := by simp [Ev.cells, hx.1]
  have hxr : (w.alloc (.cells x.cells.toArray 29)).rangeAt (w.heap.size) 0 x.cells := by
    intro j v hv; simp [go_sem, hv]
  generalize hcs : x.cells = cs at *
  have HCS := Lib.hid hcs
  clear hcs
  have hfold : cs.zipIdx.foldl (fun cs x => cs.setIfInBounds x.2 x.1) #[Value.int .i64 0, .int .i64 0, .int .i64 0, .int .i64 0, .int .i64 0, .int .i64 0, .int .i64 0, .int .i64 0, .int .i64 0, .int .i64 0, .int .i64 0, .int .i64 0, .int .i64 0, .int .i64 0, .int .i64 0, .int .i64 0, .int .i64 0, Value.map none] = (cs ++ [Value.map none]).toArray := by
    have := foldl_cells cs 0 #[Value.int .i64 0, .int .i64 0, .int .i64 0, .int .i64 0, .int .i64 0, .int .i64 0, .int .i64 0, .int .i64 0, .int .i64 0, .int .i64 0, .int .i64 0, .int .i64 0, .int .i64 0, .int .i64 0, .int .i64 0, .int .i64 0, .int .i64 0, Value.map none] (by rw [hxl]; decide)
    rw [this, hxl]
    rfl
  go_enter Try.func30, Try.ntmps30
  go_wp2_with (first
    | (refine wpList_load_mid rfl 29 _ rfl (w.heap.size) 0 rfl cs _ hxr Try.underlying29 rfl (by rw [hxl]; exact info_env) ?_)
    | (refine wpList_insert_last rfl 74 _ _ _ rfl _ _ _ _ _ _ _ _ rfl (by simp) rfl rfl Try.underlying74 Try.underlying3 rfl ?_))
  go_ret
  refine ⟨rfl, (((Ext.refl _).alloc _).alloc _).alloc _, w.heap.size + 1 + 1, ?_, ?_⟩
  · rw [HCS.out]
    exact (heap3 w _ _ _).1
  · exact (heap3 w _ _ _).2

/-- the fault that carries an error -/
def fault (e : Int) : Value := .iface 73 (.agg #[.int .i64 e])
def fchain (e : Int) : List PanicEntry := [{ v := fault e, recovered := false }]
/-- a value, or a panic with its error -/
def Outc (r : Int × Int) (en : Ending) : Prop := (r.2 = 0 ∧ en = .returned (.int .i64 r.1)) ∨ (r.2 ≠ 0 ∧ en = .panicked (fchain r.2))

set_option maxHeartbeats 1000000 in
theorem must_ok (n : Int) (w : World) : Calls Try.prog 51 #[.int .i64 n, .int .i64 0] w fun en w' => en = .returned (.int .i64 n) ∧ w = w' := by
  go_enter Try.func51, Try.ntmps51
  go_wp2_with fail
  go_ret
  exact ⟨rfl, rfl⟩

set_option maxHeartbeats 1000000 in
theorem must_err (n e : Int) (he : (e != 0) = true) (w : World) : Calls Try.prog 51 #[.int .i64 n, .int .i64 e] w fun en w' => en = .panicked (fchain e) ∧ w = w' := by
  go_enter Try.func51, Try.ntmps51
  go_wp2_with fail
  exact ⟨rfl, rfl, rfl⟩

theorem EvAt.cell0 {w : World} {X : Nat} {x : Ev} (h : EvAt w X x) : w.cell? ⟨X, 0, none⟩ = some (.int .i64 x.has) := by
  obtain ⟨M, h1, h2⟩ := h
  rw [cell_of_row w X 0 _ _ _ h1]; rfl
theorem EvAt.cell {w : World} {X : Nat} {x : Ev} (h : EvAt w X x) (hx : x.ok) (a : Nat) (ha : a < 16) : w.cell? ⟨X, 1 + a, none⟩ = some (.int .i64 (x.v.getD a 0)) := by
  obtain ⟨M, h1, h2⟩ := h
  have h3 := x.cell hx a ha
  have hl : 1 + a < x.cells.length := (List.getElem?_eq_some_iff.1 h3).1
  rw [cell_of_row w X (1 + a) _ _ _ h1, List.getElem?_toArray, List.getElem?_append_left hl]
  exact h3
theorem EvAt.frame {w : World} {X : Nat} {x : Ev} (h : EvAt w X x) (hx : x.ok) : ∃ M, w.cell? ⟨X, 17, none⟩ = some (.map (some M)) ∧ w.heap[M]? = some (.map (opMap X) 9) := by
  obtain ⟨M, h1, h2⟩ := h
  refine ⟨M, ?_, h2⟩
  have hl : x.cells.length = 17 := by simp [Ev.cells, hx.1]
  rw [cell_of_row w X 17 _ _ _ h1]
  simp [hl]

set_option maxHeartbeats 1000000 in
theorem loadT_out (a : Int) (X : Nat) (w : World) (ha : a < 0 ∨ 16 ≤ a) :
    Calls Try.prog 33 #[.pointer (some ⟨X, 0, none⟩), .int .i64 a] w fun en w' => en = .panicked (fchain 1) ∧ w = w' := by
  rcases ha with h | h
  all_goals
    go_enter Try.func33, Try.ntmps33
    go_wp2_with fail
    exact ⟨rfl, rfl, rfl⟩

set_option maxHeartbeats 1000000 in
theorem loadT_in (x : Ev) (n X : Nat) (w : World) (hx : x.ok) (hX : EvAt w X x) (hn : n < 16) :
    Calls Try.prog 33 #[.pointer (some ⟨X, 0, none⟩), .int .i64 n] w fun en w' => Outc (loadF x n) en ∧ Ext w w' := by
  have h0 := hX.cell0
  have h1 := hX.cell hx n hn
  generalize hy : x.v.getD n 0 = y at *
  have hL : loadF x n = if !bitF x.has n then (0, 181) else if inR y then (y, 0) else (0, 3) := by unfold loadF; rw [hy]
  generalize loadF x n = r at *
  have HL := Lib.hid hL
  have hi1 : (0 : Int) ≤ (n : Int) := by omega
  have hi2 : (n : Int) < 16 := by omega
  clear hL hy hX
  have hbit : (bits .and .i64 x.has (wrap64 (2 ^ n)) == 0) = !bitF x.has n := by
    have hp : (2 : Nat) ^ n ≤ 2 ^ 15 := Nat.pow_le_pow_right (by omega) (by omega)
    have e : wrap64 ((2 : Int) ^ n) = ((2 ^ n : Nat) : Int) := by
      have : ((2 : Int) ^ n) = ((2 ^ n : Nat) : Int) := by simp
      rw [this]
      generalize (2 : Nat) ^ n = t at *
      exact IntWalk.wrap64_in _ ⟨by omega, by omega⟩
    rw [e, and_bit x.has n (by omega), bitF, Bool.eq_iff_iff]
    have : ((2 : Int) ^ n) = ((2 ^ n : Nat) : Int) := by simp
    rw [this]
    simp only [Bool.not_eq_true', decide_eq_true_eq, decide_eq_false_iff_not]
    omega
  have hd1 : decide ((n : Int) < 0) = false := by simp
  have hd2 : decide (16 ≤ (n : Int)) = false := by simp; omega
  cases hb : bitF x.has n
  · rw [hb] at hbit HL
    have HB := Lib.hid hbit
    clear hbit hb
    go_enter Try.func33, Try.ntmps33
    go_wp2_with fail
    go_quiet (fail)
    rw [HB.out]
    go_wp2_with fail
    exact ⟨rfl, .inr ⟨by rw [HL.out]; simp, by rw [HL.out]; rfl⟩, (Ext.refl _).drewN _⟩
  · rw [hb] at hbit HL
    have HB := Lib.hid hbit
    clear hbit hb
    have hy3 : y < -9007199254740992 ∨ 9007199254740992 < y ∨ (-9007199254740992 ≤ y ∧ y ≤ 9007199254740992) := by omega
    rcases hy3 with h | h | ⟨g1, g2⟩
    · have hi : inR y = false := inR_not.2 (by omega)
      rw [hi] at HL
      clear hi
      go_enter Try.func33, Try.ntmps33
      go_wp2_with fail
      go_quiet (fail)
      rw [HB.out]
      go_wp2_with fail
      exact ⟨rfl, .inr ⟨by rw [HL.out]; simp, by rw [HL.out]; rfl⟩, (Ext.refl _).drewN _⟩
    · have hi : inR y = false := inR_not.2 (by omega)
      rw [hi] at HL
      clear hi
      go_enter Try.func33, Try.ntmps33
      go_wp2_with fail
      go_quiet (fail)
      rw [HB.out]
      go_wp2_with fail
      exact ⟨rfl, .inr ⟨by rw [HL.out]; simp, by rw [HL.out]; rfl⟩, (Ext.refl _).drewN _⟩
    · have hi : inR y = true := inR_iff.2 ⟨g1, g2⟩
      rw [hi] at HL
      clear hi
      go_enter Try.func33, Try.ntmps33
      go_wp2_with fail
      go_quiet (fail)
      rw [HB.out]
      go_wp2_with fail
      go_ret
      exact ⟨.inl ⟨by rw [HL.out]; rfl, by rw [HL.out]; rfl⟩, (Ext.refl _).drewN _⟩
end Go.Proofs.Ytophdbbbojnobaa
