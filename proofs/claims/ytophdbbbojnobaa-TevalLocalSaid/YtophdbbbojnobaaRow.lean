/- A slice whose row has just been laid. -/
import Derived.Test.YtophdbbbojnobaaExpr
namespace Go.Proofs.Ytophdbbbojnobaa
open Go.RowKit
set_option linter.unusedVariables false

theorem row_at {α : Type} {w : World} {B k : Nat} : ∀ (L : List (List Value × α)) (o : Nat), (∀ p ∈ L, p.1.length = k) → w.rangeAt B o (L.map (·.1)).flatten → ∀ i p, L[i]? = some p → w.rangeAt B (o + i * k) p.1 := by
  intro L
  induction L with
  | nil => intro o _ _ i p h; simp at h
  | cons q L ih =>
    intro o hl hr i p h
    have hq : q.1.length = k := hl q (by simp)
    cases i with
    | zero =>
      obtain rfl : q = p := by simpa using h
      intro j v hv
      rw [Nat.zero_mul, Nat.add_zero]
      refine hr j v ?_
      simp only [List.map_cons, List.flatten_cons]
      rw [List.getElem?_append_left (List.getElem?_eq_some_iff.1 hv).1]; exact hv
    | succ i =>
      have := ih (o + k) (fun p hp => hl p (by simp [hp])) (fun j v hv => by
        rw [Nat.add_assoc]
        refine hr (k + j) v ?_
        simp only [List.map_cons, List.flatten_cons]
        rw [List.getElem?_append_right (by omega), hq]
        simpa using hv) i p (by simpa using h)
      rwa [show o + k + i * k = o + (i + 1) * k by rw [Nat.succ_mul]; omega] at this

/-- the elements L, each with its cells, laid one behind the other from the block's beginning on -/
theorem row_in {α : Type} {w : World} {k : Nat} {R : List Value → α → Prop} (L : List (List Value × α)) (h : ∀ p ∈ L, p.1.length = k ∧ R p.1 p.2) {B : Nat} (hB : B < w.heap.size) (hr : w.rangeAt B 0 (L.map (·.1)).flatten) {n : Nat} (hn : n = L.length) (hb : n ≤ 9223372036854775807) :
    SlIn w k R (.slice (some ⟨B, 0, none⟩) n n) (L.map (·.2)) := by
  subst hn
  refine ⟨_, L.length, by simp, by simp, hb, fun _ => ⟨B, 0, rfl, hB, fun i x hi => ?_⟩⟩
  rw [List.getElem?_map] at hi
  obtain ⟨p, hp, rfl⟩ := Option.map_eq_some_iff.1 hi
  have hm := h p (List.mem_of_getElem? hp)
  exact ⟨p.1, hm.1, by simpa using row_at L 0 (fun p hp => (h p hp).1) hr i p hp, hm.2⟩
end Go.Proofs.Ytophdbbbojnobaa
