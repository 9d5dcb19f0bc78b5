/- A symbolic executor, part Z: tables. -/
import Derived.Test.YtcaomfbcchemnaaDoorEngX
namespace Go.Proofs.YtcaomfbcchemnaaDoor
open Go.RowKit
set_option linter.unusedVariables false

inductive Tr (α : Type) where
  | nil
  | leaf (n : Nat) (a : α)
  | node (k : Nat) (l r : Tr α)
noncomputable def Tr.get {α : Type} (t : Tr α) (n : Nat) : Option α :=
  Tr.rec (motive := fun _ => Option α) none (fun m a => @Bool.rec (fun _ => Option α) none (some a) (Nat.beq n m)) (fun k _ _ il ir => @Bool.rec (fun _ => Option α) il ir (Nat.ble k n)) t
/-- what holds of all entries -/
def Tr.All {α : Type} (p : Nat → α → Prop) : Tr α → Prop
  | .nil => True
  | .leaf n a => p n a
  | .node _ l r => l.All p ∧ r.All p
theorem Tr.get_all {α : Type} {p : Nat → α → Prop} : ∀ {t : Tr α} {n : Nat} {a : α}, t.All p → t.get n = some a → p n a
  | .nil, n, a, _, h => by cases h
  | .leaf m b, n, a, hp, h => by
    have h : (@Bool.rec (fun _ => Option α) none (some b) (Nat.beq n m)) = some a := h
    cases hb : Nat.beq n m with
    | true => rw [hb] at h; cases h; rw [Nat.eq_of_beq_eq_true hb]; exact hp
    | false => rw [hb] at h; cases h
  | .node k l r, n, a, hp, h => by
    have h : (@Bool.rec (fun _ => Option α) (l.get n) (r.get n) (Nat.ble k n)) = some a := h
    cases hb : Nat.ble k n with
    | true => rw [hb] at h; exact Tr.get_all hp.2 h
    | false => rw [hb] at h; exact Tr.get_all hp.1 h

/-- what a table of types owes -/
def TyOk (P : Program) (t : Nat) (i : TyI) : Prop := P.underlying t = some i.d ∧ (P.info? t).map (fun j => (j.size, j.bytes, j.zero)) = some (i.size, i.bytes, some i.zero)
theorem TyOk.ty {P : Program} {t : Nat} {i : TyI} (h : TyOk P t i) : P.underlying t = some i.d ∧ ∃ info, P.info? t = some info ∧ info.size = i.size ∧ info.bytes = i.bytes ∧ info.zero = some i.zero := by
  obtain ⟨h1, h2⟩ := h
  obtain ⟨info, h3, h4⟩ := Option.map_eq_some_iff.1 h2
  simp only [Prod.mk.injEq] at h4
  exact ⟨h1, info, h3, h4.1, h4.2.1, h4.2.2⟩
/-- what a table of functions owes -/
def FnOk (P : Program) (f : Nat) (fn : Func) : Prop := P.funcs[f]? = some fn ∧ fn.body.isSome = true ∧ (fn.name == "runtime.NumGoroutine") = false
theorem FnOk.good {P : Program} {f : Nat} {fn : Func} (h : FnOk P f fn) : FnGood P f := ⟨fn, h.1, h.2.1, h.2.2⟩

section
variable {Y : Thy} {E : Eng Y}
/-- A summary of a function that changes no older memory. -/
structure SumOk (E : Eng Y) (f : Nat) (S : Sum Y) : Prop where
  good : FnGood E.P f
  ok : ∀ args h i k, DomLt h i → S args h i k → ∃ r, k r ∧ ROk h r ∧ CallTri E f args h i r
/-- summary from a plain function of the arguments: pre, then the value -/
theorem pure_sum (hE : EngOk E) {f : Nat} (hg : FnGood E.P f) {pre : List (SV Y) → Option (Prop × SV Y)} (hp : ∀ args p v, pre args = some (p, v) → p → PureC E f args v) :
    SumOk E f (fun args _ _ k => match pre args with | some (p, v) => p ∧ (match nidL 0 args with | true => k (quiet [] v) | false => False) | none => False) := by
  refine ⟨hg, fun args h i k hD hk => ?_⟩
  split at hk
  · rename_i p v hpre
    obtain ⟨hpp, hk⟩ := hk
    split at hk
    · rename_i hn
      exact ⟨_, hk, (hp args p v hpre hpp).tri hE hn h i⟩
    · exact hk.elim
  · exact hk.elim
end
end Go.Proofs.YtcaomfbcchemnaaDoor
