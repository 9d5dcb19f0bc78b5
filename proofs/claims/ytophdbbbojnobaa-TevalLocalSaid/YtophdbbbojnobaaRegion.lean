/- A statement whose order is drawn: it may be walked in one order that is given, where what is moved only reads what every later world still holds. -/
import Derived.Test.YtophdbbbojnobaaMem
import Derived.Deep.MidRow
import Derived.Deep.RegionHeld
namespace Go.Proofs.Ytophdbbbojnobaa
open Go.RowKit
set_option linter.unusedVariables false

section
variable {P : Program} {ops : Array Oper} {Q : Exit → Act → World → Prop} {S : World → Prop}

/-- Is the order ord (true: an operation that only reads) one that may stand for all orders? -/
def ordB (ops : Array Oper) : List (Nat × Bool) → Array Bool → Bool
  | [], listed => (Region.ready .any ops listed).isEmpty
  | (i, true) :: r, listed => (Region.ready .any ops listed).contains i && Region.free .any ops listed i && ordB ops r (listed.setIfInBounds i true)
  | (i, false) :: r, listed => decide (Region.ready .any ops listed = [i]) && ordB ops r (listed.setIfInBounds i true)

/-- The operations walked in the order ord. -/
def wpOrd (P : Program) (ops : Array Oper) (Q : Exit → Act → World → Prop) (S : World → Prop) : List (Nat × Bool) → Act → World → Prop
  | [], a, w => Q .normal a w
  | (i, true) :: r, a, w => ∃ o v, ops[i]? = some o ∧ YieldsIf P ops S o v a ∧ wpOrd P ops Q S r (a.put o.dst v) w
  | (i, false) :: r, a, w => ∃ o, ops[i]? = some o ∧ Region.wanted o (yielded ops a.tmps) = true ∧ o.wp P a w (fun a' w' => S w' ∧ wpOrd P ops Q S r a' w') Q

theorem wpAnyH_of_ord (hsel : Region.noSelect ops = true) :
    ∀ (ord : List (Nat × Bool)) (listed : Array Bool) (a : Act) (w : World), (∀ p ∈ ord, p.2 = true → ∀ o, ops[p.1]? = some o → ∀ c a w v, Q (.panic c) (a.put o.dst v) w → Q (.panic c) a w) →
      ordB ops ord listed = true → S w → wpOrd P ops Q S ord a w → wpAnyH P .any ops Q S ord.length listed a w
  | [], listed, a, w, hQ, hB, hS, h => wpAnyH_done (by simpa [ordB] using hB) h 0
  | (i, true) :: r, listed, a, w, hQ, hB, hS, h => by
    simp only [ordB, Bool.and_eq_true] at hB
    obtain ⟨o, v, ho, hy, h⟩ := h
    exact wpAnyH_take ho hsel hB.1.2 hB.1.1 (fun c a w hq => hQ (i, true) (by simp) rfl o ho c a w _ hq) hy hS (wpAnyH_of_ord hsel r _ _ _ (fun p hp => hQ p (by simp [hp])) hB.2 hS h)
  | (i, false) :: r, listed, a, w, hQ, hB, hS, h => by
    simp only [ordB, Bool.and_eq_true, decide_eq_true_eq] at hB
    obtain ⟨o, ho, hw, h⟩ := h
    refine wpAnyH_all hB.1 (by simp) fun j hj => ?_
    obtain rfl : j = i := by simpa using hj
    unfold wpOp
    simp only [ho, hw, if_true]
    refine .inl (Oper.wp_mono ?_ h)
    intro a' w' ⟨hS', h'⟩
    exact ⟨hS', wpAnyH_of_ord hsel r _ _ _ (fun p hp => hQ p (by simp [hp])) hB.2 hS' h'⟩

/-- The law, where the post of a panic bears what the reads leave. -/
theorem wp_region_ordD {id : Nat} {a : Act} {w : World} {l : List Oper} (ord : List (Nat × Bool)) (S : World → Prop) (hm : P.follows .mixedOrders = true)
    (hB : (Region.noSelect l.toArray && decide (ord.length = l.length) && ordB l.toArray ord (Array.replicate l.toArray.size false)) = true)
    (hQ : ∀ p ∈ ord, p.2 = true → ∀ o, l.toArray[p.1]? = some o → ∀ c a w v, Q (.panic c) (a.put o.dst v) w → Q (.panic c) a w) (hS : S w.drew) (h : wpOrd P l.toArray Q S ord a w.drew) : (Code.region id l.toArray true).wp P Q a w := by
  simp only [Bool.and_eq_true, decide_eq_true_eq] at hB
  refine wp_region_held_drew (S := S) hm hS fun hS => ?_
  have := wpAnyH_of_ord (Q := Q) hB.1.1 ord _ a w.drew hQ hB.2 hS h
  rw [hB.1.2] at this
  simpa using this

theorem wp_region_ord {id : Nat} {a : Act} {w : World} {l : List Oper} (ord : List (Nat × Bool)) (S : World → Prop) (hm : P.follows .mixedOrders = true)
    (hB : (Region.noSelect l.toArray && decide (ord.length = l.length) && ordB l.toArray ord (Array.replicate l.toArray.size false)) = true)
    (hQ : ∀ c a w d v, Q (.panic c) (a.put d v) w → Q (.panic c) a w) (hS : S w.drew) (h : wpOrd P l.toArray Q S ord a w.drew) : (Code.region id l.toArray true).wp P Q a w :=
  wp_region_ordD ord S hm hB (fun _ _ _ _ _ c a w v hq => hQ c a w _ v hq) hS h

/-- a read of one cell -/
theorem ord_cell {o : Oper} {a : Act} {v : Value} (h : Region.wanted o (yielded ops a.tmps) = true) (hr : ∀ w, S w → (execOp a.eval o).run P w = .ok (.value v) w) : YieldsIf P ops S o v a := .inl ⟨h, hr⟩
/-- a read of a struct or an array -/
theorem ord_row {o : Oper} {a : Act} {W : World} (hw : Region.wanted o (yielded ops a.tmps) = true) (ty : TypeId) (x : Operand) (ho : o.op = .load ty x)
    (b n : Nat) (hx : a.eval x = .pointer (some ⟨b, n, none⟩)) (cs : List Value) (d : TypeDesc) (hc : W.rangeAt b n cs)
    (hu : P.underlying ty = some d) (hd : d.isRow = true) (hi : (P.info? ty).map (·.size) = some cs.length) : YieldsIf P ops (Ext W) o (.agg cs.toArray) a :=
  yieldsIf_load_mid hw ty x ho b n hx cs d (fun w h => fun j v hv => h.cell (hc j v hv)) hu hd hi

/-- A region cut off from what follows: behind it F holds of the frame before, the frame and the world behind. -/
theorem wp_cut_region {id : Nat} {o : Array Oper} {b : Bool} {next : Act → World → Prop} {a : Act} {w : World} (F : Act → Act → World → Prop)
    (h1 : (Code.region id o b).wp P (Exit.then (F a) Q) a w) (h2 : ∀ a' w', F a a' w' → next a' w') : (Code.region id o b).wp P (Exit.then next Q) a w :=
  Code.wp_mono (fun e a' w' q => by cases e <;> first | exact h2 _ _ q | exact q) h1

theorem wpOp_of {i : Nat} {o : Oper} {K : Act → World → Prop} {a : Act} {w : World} (ho : ops[i]? = some o) (hw : Region.wanted o (yielded ops a.tmps) = true) (h : o.wp P a w K Q) : wpOp P ops Q i K a w := by
  unfold wpOp
  simp only [ho, hw, if_true]
  exact .inl h

theorem panic_put {Q : Exit → Act → World → Prop} (hQ : ∀ c a w d v, Q (.panic c) (a.put d v) w → Q (.panic c) a w) {o : Oper} {v : Value} : ∀ c a w, Q (.panic c) (a.put o.dst v) w → Q (.panic c) a w := fun c a w => hQ c a w _ _

/-- several may come up: each of them -/
theorem wpAnyH_two {i j : Nat} {fuel : Nat} {listed : Array Bool} {a : Act} {w : World} (hr : Region.ready .any ops listed = [i, j])
    (h1 : wpOp P ops Q i (fun a' w' => S w' ∧ wpAnyH P .any ops Q S fuel (listed.setIfInBounds i true) a' w') a w)
    (h2 : wpOp P ops Q j (fun a' w' => S w' ∧ wpAnyH P .any ops Q S fuel (listed.setIfInBounds j true) a' w') a w) : wpAnyH P .any ops Q S (fuel + 1) listed a w :=
  wpAnyH_all hr (by simp) fun k hk => by
    rcases (by simpa using hk : k = i ∨ k = j) with rfl | rfl
    · exact h1
    · exact h2
theorem wpAnyH_one {i : Nat} {fuel : Nat} {listed : Array Bool} {a : Act} {w : World} (hr : Region.ready .any ops listed = [i])
    (h1 : wpOp P ops Q i (fun a' w' => S w' ∧ wpAnyH P .any ops Q S fuel (listed.setIfInBounds i true) a' w') a w) : wpAnyH P .any ops Q S (fuel + 1) listed a w :=
  wpAnyH_all hr (by simp) fun k hk => by
    obtain rfl : k = i := by simpa using hk
    exact h1
/-- from a point on an order is forced: the walk in that order -/
theorem wpAnyH_ord {n : Nat} {listed : Array Bool} {a : Act} {w : World} (ord : List (Nat × Bool)) (hn : ord.length = n) (hsel : Region.noSelect ops = true) (hB : ordB ops ord listed = true)
    (hQ : ∀ c a w d v, Q (.panic c) (a.put d v) w → Q (.panic c) a w) (hS : S w) (h : wpOrd P ops Q S ord a w) : wpAnyH P .any ops Q S n listed a w := by
  subst hn
  exact wpAnyH_of_ord hsel ord listed a w (fun _ _ _ _ _ c a w v hq => hQ c a w _ v hq) hB hS h
end
end Go.Proofs.Ytophdbbbojnobaa
