/- Tariffs as plain data, how they lie in memory, and what Holds and Amount compute. No program in sight. -/
import Derived.Test.YtophdbbbojnobaaExpr
namespace Go.Proofs.Ytophdbbbojnobaa
open Go.RowKit
set_option linter.unusedVariables false

/-- A test: attribute, least and greatest value. -/
structure Tst where
  a : Int
  lo : Int
  hi : Int
/-- A clause: name, tests, what is paid. -/
structure Cl where
  name : ByteArray
  tests : List Tst
  pay : Ex
/-- A tariff: name, kind, clauses. -/
structure Tf where
  name : ByteArray
  kind : Int
  cls : List Cl

def TstIn (cs : List Value) (t : Tst) : Prop := cs = [.int .i64 t.a, .int .i64 t.lo, .int .i64 t.hi] ∧ I64 t.a ∧ I64 t.lo ∧ I64 t.hi
def ClIn (w : World) (cs : List Value) (c : Cl) : Prop := ∃ sv ps, cs = .string c.name :: sv :: ps ∧ SlIn w 3 TstIn sv c.tests ∧ ExR w ps c.pay
def TfIn (w : World) (cs : List Value) (t : Tf) : Prop := ∃ sv, cs = [.string t.name, .int .i64 t.kind, sv] ∧ I64 t.kind ∧ SlIn w 9 (ClIn w) sv t.cls

theorem ClIn.ext {w w' : World} (hx : Ext w w') {cs : List Value} {c : Cl} (h : ClIn w cs c) : ClIn w' cs c := by
  obtain ⟨sv, ps, hcs, hs, he⟩ := h
  exact ⟨sv, ps, hcs, hs.mono hx fun _ _ _ h => h, he.ext hx⟩
theorem TfIn.ext {w w' : World} (hx : Ext w w') {cs : List Value} {t : Tf} (h : TfIn w cs t) : TfIn w' cs t := by
  obtain ⟨sv, hcs, hk, hs⟩ := h
  exact ⟨sv, hcs, hk, hs.mono hx fun _ _ _ h => h.ext hx⟩
theorem ClIn.len {w : World} {cs : List Value} {c : Cl} (h : ClIn w cs c) : cs.length = 9 := by
  obtain ⟨sv, ps, rfl, _, d, he⟩ := h
  simp [he.len]

/-- Do the tests hold? -/
def holdsF (x : Ev) : List Tst → Bool × Int
  | [] => (true, 0)
  | t :: ts => if t.a < 0 ∨ 16 ≤ t.a then (false, 1) else if (loadF x t.a.toNat).2 ≠ 0 then (false, (loadF x t.a.toNat).2) else
      if (loadF x t.a.toNat).1 < t.lo ∨ t.hi < (loadF x t.a.toNat).1 then (false, 0) else holdsF x ts
/-- The amount of the clauses, numbered from k on. -/
def amountF (x : Ev) : List Cl → Nat → Int × Int × Int
  | [], _ => (0, 0, 180)
  | c :: cs, k => if (holdsF x c.tests).2 ≠ 0 then (0, 0, (holdsF x c.tests).2) else if (holdsF x c.tests).1 = false then amountF x cs (k + 1) else
      if (EvalF c.pay x).2 ≠ 0 then (0, 0, (EvalF c.pay x).2) else ((EvalF c.pay x).1, k, 0)

theorem SlIn.open_ {α : Type} {w : World} {k : Nat} {R : List Value → α → Prop} {sv : Value} {l : List α} (h : SlIn w k R sv l) :
    ∃ A cap, sv = .slice A l.length cap ∧ l.length ≤ 9223372036854775807 ∧ l.length ≤ cap ∧
      Hid (∀ i x, l[i]? = some x → ∃ b o cs, A = some ⟨b, o, none⟩ ∧ b < w.heap.size ∧ cs.length = k ∧ w.rangeAt b (o + i * k) cs ∧ R cs x) := by
  obtain ⟨A, cap, rfl, h1, h2, h3⟩ := h
  refine ⟨A, cap, rfl, by omega, h1, fun i x hi => ?_⟩
  have hlt : i < l.length := (List.getElem?_eq_some_iff.1 hi).1
  obtain ⟨b, o, rfl, hb, h4⟩ := h3 (by omega)
  obtain ⟨cs, hl, hr, hR⟩ := h4 i x hi
  exact ⟨b, o, cs, rfl, hb, hl, hr, hR⟩
end Go.Proofs.Ytophdbbbojnobaa
