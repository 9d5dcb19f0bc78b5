/- Expressions of tariffs as plain data, how they lie in memory, and what the functions over them compute. No program in sight. -/
import Derived.Test.YtophdbbbojnobaaMem
import Derived.Test.YtophdbbbojnobaaArith
import Derived.Deep.MidRow
namespace Go.Proofs.Ytophdbbbojnobaa
open Go.RowKit
set_option linter.unusedVariables false

theorem Ext.range {w w' : World} (h : Ext w w') {b o : Nat} {cs : List Value} (hr : w.rangeAt b o cs) : w'.rangeAt b o cs :=
  fun j v hv => h.cell (hr j v hv)

def I64 (x : Int) : Prop := -9223372036854775808 ≤ x ∧ x ≤ 9223372036854775807

/-- The slice value sv holds the elements l, each of k cells that R reads. -/
def SlIn {α : Type} (w : World) (k : Nat) (R : List Value → α → Prop) (sv : Value) (l : List α) : Prop :=
  ∃ A cap, sv = .slice A l.length cap ∧ l.length ≤ cap ∧ cap ≤ 9223372036854775807 ∧
    (0 < l.length → ∃ b o, A = some ⟨b, o, none⟩ ∧ b < w.heap.size ∧ ∀ i x, l[i]? = some x → ∃ cs, cs.length = k ∧ w.rangeAt b (o + i * k) cs ∧ R cs x)

theorem SlIn.mono {α : Type} {w w' : World} {k : Nat} {R R' : List Value → α → Prop} {sv : Value} {l : List α} (h : SlIn w k R sv l) (hx : Ext w w') (hR : ∀ cs x, x ∈ l → R cs x → R' cs x) : SlIn w' k R' sv l := by
  obtain ⟨A, cap, rfl, h1, h2, h3⟩ := h
  refine ⟨A, cap, rfl, h1, h2, fun h0 => ?_⟩
  obtain ⟨b, o, rfl, hb, h4⟩ := h3 h0
  refine ⟨b, o, rfl, Nat.lt_of_lt_of_le hb hx.size, fun i x hi => ?_⟩
  obtain ⟨cs, hl, hr, hR1⟩ := h4 i x hi
  exact ⟨cs, hl, hx.range hr, hR cs x (List.mem_of_getElem? hi) hR1⟩

/-- An expression: operation, number, unit, operands. -/
inductive Ex where
  | mk (op n u0 u1 u2 u3 : Int) (l : List Ex)

def Ex.op : Ex → Int | .mk op _ _ _ _ _ _ => op
def Ex.n : Ex → Int | .mk _ n _ _ _ _ _ => n
def Ex.l : Ex → List Ex | .mk _ _ _ _ _ _ l => l
def ex0 : Ex := .mk 0 0 0 0 0 0 []

/-- The seven cells cs hold the expression e, whose operands lie in w, nested fewer than d deep. -/
def ExIn (w : World) : Nat → List Value → Ex → Prop
  | 0, _, _ => False
  | d + 1, cs, .mk op n u0 u1 u2 u3 l => ∃ sv, cs = [.int .i64 op, .int .i64 n, .int .i64 u0, .int .i64 u1, .int .i64 u2, .int .i64 u3, sv] ∧
      I64 op ∧ I64 n ∧ I64 u0 ∧ I64 u1 ∧ I64 u2 ∧ I64 u3 ∧ SlIn w 7 (ExIn w d) sv l

theorem ExIn.ext {w w' : World} (hx : Ext w w') : ∀ {d : Nat} {cs : List Value} {e : Ex}, ExIn w d cs e → ExIn w' d cs e := by
  intro d
  induction d with
  | zero => intro cs e h; exact h.elim
  | succ d ih =>
    intro cs e h
    cases e with
    | mk op n u0 u1 u2 u3 l =>
      obtain ⟨sv, hcs, h0, h1, h2, h3, h4, h5, hs⟩ := h
      exact ⟨sv, hcs, h0, h1, h2, h3, h4, h5, hs.mono hx fun cs x _ hR => ih hR⟩

theorem ExIn.len {w : World} {d : Nat} {cs : List Value} {e : Ex} (h : ExIn w d cs e) : cs.length = 7 := by
  cases d with
  | zero => exact h.elim
  | succ d => cases e with | mk op n u0 u1 u2 u3 l => obtain ⟨sv, rfl, _⟩ := h; rfl

def ExR (w : World) (cs : List Value) (e : Ex) : Prop := ∃ d, ExIn w d cs e
theorem ExR.ext {w w' : World} (hx : Ext w w') {cs : List Value} {e : Ex} (h : ExR w cs e) : ExR w' cs e := h.elim fun d h => ⟨d, h.ext hx⟩

/-- An expression in memory, opened: its cells and its operands. -/
theorem ExIn.open_ {w : World} {d : Nat} {cs : List Value} {e : Ex} (h : ExIn w d cs e) :
    ∃ A cap u0 u1 u2 u3, cs = [.int .i64 e.op, .int .i64 e.n, .int .i64 u0, .int .i64 u1, .int .i64 u2, .int .i64 u3, .slice A e.l.length cap] ∧ I64 e.op ∧ I64 e.n ∧ e.l.length ≤ 9223372036854775807 ∧ e.l.length ≤ cap ∧
      (0 < e.l.length → ∃ b o, A = some ⟨b, o, none⟩ ∧ b < w.heap.size ∧ ∀ i x, e.l[i]? = some x → ∃ cs, cs.length = 7 ∧ w.rangeAt b (o + i * 7) cs ∧ ExIn w (d - 1) cs x) := by
  cases d with
  | zero => exact h.elim
  | succ d =>
    cases e with
    | mk op n u0 u1 u2 u3 l =>
      obtain ⟨sv, rfl, h0, h1, h2, h3, h4, h5, A, cap, rfl, h6, h7, hs⟩ := h
      exact ⟨A, cap, u0, u1, u2, u3, rfl, h0, h1, Nat.le_trans h6 h7, h6, hs⟩

/-! What is computed. -/
def sizeL (g : Ex → Nat → Nat) : List Ex → Nat → Nat → Nat
  | [], n, _ => n
  | x :: xs, n, limit => if n < limit then sizeL g xs (n + g x (limit - n)) limit else n
/-- The nodes of an expression, counted up to a limit. -/
def sizeF : Nat → Ex → Nat → Nat
  | 0, _, _ => 1
  | f + 1, e, limit => sizeL (sizeF f) e.l 1 limit
theorem sizeL_le {g : Ex → Nat → Nat} (limit : Nat) : ∀ (l : List Ex) (n : Nat), (∀ x m, 1 ≤ m → m < limit → g x m ≤ m) → 1 ≤ n → n ≤ limit → sizeL g l n limit ≤ limit := by
  intro l
  induction l with
  | nil => intro n _ _ h; exact h
  | cons x xs ih =>
    intro n hg h1 hn
    simp only [sizeL]
    split
    · have := hg x (limit - n) (by omega) (by omega)
      exact ih _ hg (by omega) (by omega)
    · exact hn
theorem sizeL_stop {g : Ex → Nat → Nat} {n limit : Nat} (l : List Ex) (h : ¬ n < limit) : sizeL g l n limit = n := by
  cases l with
  | nil => rfl
  | cons x xs => simp only [sizeL, if_neg h]
theorem sizeF_le : ∀ (f : Nat) (e : Ex) (limit : Nat), 1 ≤ limit → sizeF f e limit ≤ limit := by
  intro f
  induction f with
  | zero => intro e limit h; exact h
  | succ f ih => intro e limit h; exact sizeL_le limit _ _ (fun x m hm _ => ih x m hm) (Nat.le_refl _) h
/-- more fuel than the limit changes nothing -/
theorem sizeL_congr {g g' : Ex → Nat → Nat} (limit : Nat) : ∀ (l : List Ex) (n : Nat), (∀ x m, x ∈ l → m < limit → g x m = g' x m) → 1 ≤ n → sizeL g l n limit = sizeL g' l n limit := by
  intro l
  induction l with
  | nil => intro n _ _; rfl
  | cons x xs ih =>
    intro n h h1
    simp only [sizeL]
    split
    · rw [h x (limit - n) (by simp) (by omega)]
      exact ih _ (fun y m hy hm => h y m (by simp [hy]) hm) (by omega)
    · rfl
theorem sizeF_fuel : ∀ (f g : Nat) (e : Ex) (limit : Nat), limit ≤ f → limit ≤ g → sizeF (f + 1) e limit = sizeF (g + 1) e limit := by
  intro f
  induction f with
  | zero => intro g e limit h _; obtain rfl : limit = 0 := by omega
            simp only [sizeF]; exact sizeL_congr 0 _ _ (fun x m _ hm => absurd hm (by omega)) (Nat.le_refl _)
  | succ f ih =>
    intro g e limit h h'
    cases g with
    | zero => obtain rfl : limit = 0 := by omega
              simp only [sizeF]; exact sizeL_congr 0 _ _ (fun x m _ hm => absurd hm (by omega)) (Nat.le_refl _)
    | succ g =>
      show sizeL (sizeF (f + 1)) e.l 1 limit = sizeL (sizeF (g + 1)) e.l 1 limit
      exact sizeL_congr limit _ _ (fun x m _ hm => ih g x m (by omega) (by omega)) (Nat.le_refl _)

def opsF (op : Int) : Int := if op < 1 ∨ 11 < op then -1 else if op ≤ 2 then 0 else if op = 11 then 4 else 2
/-- Well-formed, and at most so deep. -/
def formF : Nat → Ex → Bool
  | 0, _ => false
  | d + 1, e => decide ((e.l.length : Int) = opsF e.op) &&
      (if e.op = 1 then decide (0 ≤ e.n) && decide (e.n ≤ 1099511627776) else if e.op = 2 then decide (0 ≤ e.n) && decide (e.n < 16) else e.l.all (formF d))

/-- a well-formed operation: its operands are two, or four, and well-formed -/
theorem formF_open {d : Nat} {e : Ex} (h : formF (d + 1) e = true) (h1 : ¬ e.op = 1) (h2 : ¬ e.op = 2) :
    3 ≤ e.op ∧ e.op ≤ 11 ∧ (e.op = 11 → e.l.length = 4) ∧ (e.op ≠ 11 → e.l.length = 2) ∧ ∀ i, i < e.l.length → formF d (e.l.getD i ex0) = true := by
  simp only [formF, if_neg h1, if_neg h2, Bool.and_eq_true, decide_eq_true_eq, List.all_eq_true] at h
  obtain ⟨hl, ha⟩ := h
  unfold opsF at hl
  have hr : 3 ≤ e.op ∧ e.op ≤ 11 := by
    refine ⟨?_, ?_⟩ <;> (split at hl <;> omega)
  rw [if_neg (by omega), if_neg (by omega)] at hl
  refine ⟨hr.1, hr.2, fun h => ?_, fun h => ?_, fun i hi => ha _ ?_⟩
  · rw [if_pos h] at hl; omega
  · rw [if_neg h] at hl; omega
  · simp only [List.getD, List.getElem?_eq_getElem hi, Option.getD_some]; exact List.getElem_mem _
theorem formF_int {d : Nat} {e : Ex} (h : formF (d + 1) e = true) (h1 : e.op = 1) : e.l = [] ∧ 0 ≤ e.n ∧ e.n ≤ 1099511627776 := by
  simp only [formF, if_pos h1, Bool.and_eq_true, decide_eq_true_eq] at h
  rw [h1] at h
  exact ⟨List.eq_nil_of_length_eq_zero (by have := h.1; unfold opsF at this; simpa using this), h.2⟩
theorem formF_attr {d : Nat} {e : Ex} (h : formF (d + 1) e = true) (h1 : e.op = 2) : e.l = [] ∧ 0 ≤ e.n ∧ e.n < 16 := by
  have h2 : ¬ e.op = 1 := by omega
  simp only [formF, if_pos h1, if_neg h2, Bool.and_eq_true, decide_eq_true_eq] at h
  rw [h1] at h
  exact ⟨List.eq_nil_of_length_eq_zero (by have := h.1; unfold opsF at this; simpa using this), h.2⟩

/-- Attributes: the set of those that have a value, and sixteen values. -/
structure Ev where
  has : Int
  v : List Int
def Ev.cells (x : Ev) : List Value := .int .i64 x.has :: x.v.map (Value.int .i64)
def Ev.ok (x : Ev) : Prop := x.v.length = 16 ∧ I64 x.has ∧ ∀ y ∈ x.v, I64 y
def bitF (n : Int) (a : Nat) : Bool := decide ((n / 2 ^ a) % 2 = 1)
def loadF (x : Ev) (a : Nat) : Int × Int := if !bitF x.has a then (0, 181) else if inR (x.v.getD a 0) then (x.v.getD a 0, 0) else (0, 3)
def applyF (op a b : Int) : Int × Int :=
  if op = 3 then addF a b else if op = 4 then subF a b else if op = 5 then mulF a b else if op = 6 then (min a b, 0) else if op = 7 then (max a b, 0) else divF a b op
/-- The value of a well-formed expression, or its error. -/
def evalF : Nat → Ex → Ev → Int × Int
  | 0, _, _ => (0, 0)
  | d + 1, e, x =>
    if e.op = 1 then (e.n, 0) else if e.op = 2 then loadF x e.n.toNat else
    let a := evalF d (e.l.getD 0 ex0) x
    if a.2 ≠ 0 then (0, a.2) else
    let b := evalF d (e.l.getD 1 ex0) x
    if b.2 ≠ 0 then (0, b.2) else
    if e.op ≠ 11 then applyF e.op a.1 b.1 else
    if a.1 < b.1 then evalF d (e.l.getD 2 ex0) x else evalF d (e.l.getD 3 ex0) x
theorem rngF_err (c : Int) (h : (rngF c).2 ≠ 0) : (rngF c).1 = 0 := by
  unfold rngF at h ⊢; split <;> simp_all
theorem ite_err {c : Prop} [Decidable c] {p q : Int × Int} (hp : p.2 ≠ 0 → p.1 = 0) (hq : q.2 ≠ 0 → q.1 = 0) : (if c then p else q).2 ≠ 0 → (if c then p else q).1 = 0 := by
  split
  · exact hp
  · exact hq
theorem applyF_err (op a b : Int) : (applyF op a b).2 ≠ 0 → (applyF op a b).1 = 0 := by
  unfold applyF addF subF mulF divF
  repeat' refine ite_err ?_ ?_
  all_goals first | exact rngF_err _ | simp
theorem loadF_err (x : Ev) (a : Nat) (h : (loadF x a).2 ≠ 0) : (loadF x a).1 = 0 := by
  unfold loadF at h ⊢; repeat' split at h
  all_goals simp_all
/-- an error has the value 0 -/
theorem evalF_err : ∀ (d : Nat) (e : Ex) (x : Ev), (evalF d e x).2 ≠ 0 → (evalF d e x).1 = 0
  | 0, _, _, h => absurd rfl h
  | d + 1, e, x, h => by
    have i0 := evalF_err d (e.l.getD 2 ex0) x
    have i1 := evalF_err d (e.l.getD 3 ex0) x
    unfold evalF at h ⊢
    by_cases h1 : e.op = 1
    · simp only [if_pos h1] at h; exact absurd rfl h
    · by_cases h2 : e.op = 2
      · simp only [if_neg h1, if_pos h2] at h ⊢; exact loadF_err _ _ h
      · simp only [if_neg h1, if_neg h2] at h ⊢
        by_cases h3 : (evalF d (e.l.getD 0 ex0) x).2 ≠ 0
        · rw [if_pos h3]
        · rw [if_neg h3] at h ⊢
          by_cases h4 : (evalF d (e.l.getD 1 ex0) x).2 ≠ 0
          · rw [if_pos h4]
          · rw [if_neg h4] at h ⊢
            by_cases h5 : e.op ≠ 11
            · rw [if_pos h5] at h ⊢; exact applyF_err _ _ _ h
            · rw [if_neg h5] at h ⊢
              split at h
              · rw [if_pos ‹_›]; exact i0 h
              · rw [if_neg ‹_›]; exact i1 h
def EvalF (e : Ex) (x : Ev) : Int × Int := if formF 24 e then evalF 24 e x else (0, 1)
end Go.Proofs.Ytophdbbbojnobaa
