/- A symbolic executor, part ZC: arguments that read as data; all memory stays. -/
import Derived.Test.YtcaomfbcchemnaaDoorEngZA
import Derived.ProofKit
import Derived.OpenShut
import Derived.LaidMore
import Derived.Deep.Slices
namespace Go.Proofs.YtcaomfbcchemnaaDoor
open Go.ChangeShapes Go.WideShapes Go.ChangeAt Go.RowKit
set_option linter.unusedVariables false

section
variable {Y : Thy} {E : Eng Y}
/-- all the memory there is stays -/
def gTop (w : World) : GH :=
  { cell := fun r o => w.cell? ⟨r, o, none⟩
    obj := fun r => match w.heap[r]? with | some (.map es _) => some es | _ => none }
theorem inv_top {w : World} (hg : ∀ n sv, E.glob n = some sv → ∃ v, w.cell? ⟨n, 0, none⟩ = some v ∧ Den E (fun _ => none) (gTop w) sv v) : Inv E w.heap.size σ0 hp0 (gTop w) w := by
  refine ⟨fun r o v hv => hv, fun r es hv => ?_, (fun b x hx => by cases hx), fun b b' r z z' h1 => absurd rfl h1, (fun b r z hs => by cases hs), (fun b x r z o v hx => by cases hx), (fun b x r z hx => by cases hx), hg⟩
  have hv : (match w.heap[r]? with | some (.map es _) => some es | _ => none) = some es := hv
  split at hv
  · rename_i es' c hc
    cases hv
    exact ⟨c, hc⟩
  · cases hv
end

section
variable {H : Type} {enc : TypeId × Value → H} {P : Program} {w : World} {spare : Nat → Bool} {held : Bool} {fuel : Nat} {t : TypeId} {cs : List Value} {x : DataW H × List MemPlace}
theorem one_int {k : IntKind} (ht : P.underlying t = some (.int k)) (h : DataW.trod enc P w 0 spare held fuel t cs = some x) : ∃ n, cs = [.int k n] ∧ (Lit.int k n).wf = true := by
  cases fuel with
  | zero => simp [DataW.trod] at h
  | succ m =>
    unfold DataW.trod at h
    rw [ht] at h
    split at h <;> simp_all
theorem psl_of_trod {Y : Thy} {E : Eng Y} {th : Y.Th} {e : TypeId} (hw : ∀ a, (E.enc th a).length = E.w th) (hp : 0 < E.w th) (ht : P.underlying t = some (.slice e)) (hk : P.cellsOf e = E.w th)
    (h : DataW.trod enc P w 0 spare held fuel t cs = some x) (hR : ∀ n cs' y, DataW.trod enc P w 0 spare held n e cs' = some y → ∃ a, ∀ (j : Nat) sv, (E.enc th a)[j]? = some sv → ∃ v, cs'[j]? = some v ∧ Den E σ0 (gTop w) sv v) :
    ∃ sv l, cs = [sv] ∧ Den E σ0 (gTop w) (.psl th l false) sv := by
  rcases DataW.trod_slice ht h with ⟨h0, _⟩ | ⟨a, len, cap, elems, rest, n, hf, hcs, _, _, hl, hc, hel, hcell, _⟩
  · exact ⟨_, [], h0, .psl (l := []) (fun _ _ => undef) (Nat.le_refl _) (by unfold maxLen; omega) (by simp) (fun _ => rfl) (by simp) (by simp)⟩
  · have hall : ∀ i, i < len → ∃ p : List Value × Y.dom th, w.cells? 0 (a.add (i * E.w th)) (E.w th) = some p.1 ∧ ∀ (j : Nat) sv, (E.enc th p.2)[j]? = some sv → ∃ v, p.1[j]? = some v ∧ Den E σ0 (gTop w) sv v := by
      intro i hi
      have h1 := hcell i hi
      rw [List.getElem?_eq_getElem (by omega)] at h1
      obtain ⟨cs', hc1, hc2⟩ := Option.bind_eq_some_iff.1 h1
      obtain ⟨y, hy⟩ := hR n cs' _ hc2
      exact ⟨(cs', y), by rw [← hk]; exact hc1, hy⟩
    rcases Nat.eq_zero_or_pos len with h0 | h0
    · subst h0
      exact ⟨_, [], hcs, .psl (l := []) (fun _ _ => undef) hl hc (by simp) (fun h => by cases h) (fun hp => by simp at hp) (by simp)⟩
    have : Inhabited (List Value × Y.dom th) := ⟨(hall 0 h0).choose⟩
    obtain ⟨f, hfam⟩ := Go.Deep.choose_lt (α := List Value × Y.dom th) hall
    have hb0 : a.spot = none := by
      have h1 := (hfam 0 h0).1
      obtain ⟨_, hlen, hcl⟩ := World.cells?_some h1
      have h2 := hcl 0 hp
      rw [List.getElem?_eq_getElem (by omega)] at h2
      simp only [Nat.zero_mul, Addr.add, if_true] at h2
      unfold World.cell? at h2
      split at h2
      · split at h2
        · cases h2
        · rename_i hs; simpa using hs
      · cases h2
    obtain ⟨b, o, s⟩ := a
    obtain rfl : s = none := hb0
    have cell : ∀ i, i < len → ∀ j, j < E.w th → w.cell? ⟨b, o + i * E.w th + j, none⟩ = (f i).1[j]? := by
      intro i hi j hj
      obtain ⟨_, hlen, hcl⟩ := World.cells?_some (hfam i hi).1
      have := hcl j hj
      rw [Go.Deep.add_add, add_at] at this
      rw [Nat.add_assoc]; exact this
    have hlen : ((List.range len).map fun i => (f i).2).length = len := by simp
    have get : ∀ (i : Nat) y, ((List.range len).map fun i => (f i).2)[i]? = some y → i < len ∧ (f i).2 = y := by
      intro i y hi
      have hilt : i < len := by have := (List.getElem?_eq_some_iff.1 hi).1; simpa using this
      exact ⟨hilt, by simpa [hilt] using hi⟩
    refine ⟨.slice (some ⟨b, o, none⟩) len cap, (List.range len).map fun i => (f i).2, hcs, ?_⟩
    have := Den.psl (E := E) (σ := σ0) (g := gTop w) (th := th) (l := (List.range len).map fun i => (f i).2) (full := false) (base := some ⟨b, o, none⟩) (c := cap) (fun i j => (f i).1.getD j undef) (by omega) hc (by simp) (fun h => by cases h)
      (fun _ => ⟨b, o, rfl, fun i y hy j hj => ?_⟩) (fun i y hy j sv hj => ?_)
    · rw [hlen] at this; exact this
    · obtain ⟨hi, _⟩ := get i y hy
      rw [hw] at hj
      obtain ⟨_, hl2, _⟩ := World.cells?_some (hfam i hi).1
      show w.cell? _ = _
      rw [cell i hi j hj, List.getD_eq_getElem?_getD, List.getElem?_eq_getElem (by omega)]; rfl
    · obtain ⟨hi, rfl⟩ := get i y hy
      obtain ⟨v, h1, h2⟩ := (hfam i hi).2 j sv hj
      rw [List.getD_eq_getElem?_getD, h1]; exact h2
theorem agg_of_cells {v : Value} {n : Nat} (h : v.cells.toList.length = n) (hn : n ≠ 1) : v = .agg v.cells.toList.toArray := by
  cases v <;> simp_all [Value.cells]
end
end Go.Proofs.YtcaomfbcchemnaaDoor
