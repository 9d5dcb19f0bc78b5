/- Operations on tariffs, clauses, expressions and attributes that lie in memory. -/
import Derived.Test.YtophdbbbojnobaaProg
import Derived.Test.YtophdbbbojnobaaOp18
namespace Go.Proofs.Ytophdbbbojnobaa
open Go.RowKit
set_option linter.unusedVariables false

/-- A place that holds n cells of which p holds. -/
def LocP (n : Nat) (p : World → Value → Prop) : World → Value → Prop := fun w u => ∃ b o cs, u = .pointer (some ⟨b, o, none⟩) ∧ cs.length = n ∧ w.rangeAt b o cs ∧ p w (.agg cs.toArray)
theorem LocP.st {n : Nat} {p : World → Value → Prop} (h : St p) : St (LocP n p) := fun w w' u hx ⟨b, o, cs, h1, h2, h3, h4⟩ => ⟨b, o, cs, h1, h2, hx.range h3, h _ _ _ hx h4⟩
/-- A place that holds one cell of which q holds. -/
def CellP (q : World → Value → Prop) : World → Value → Prop := fun w u => ∃ b o v, u = .pointer (some ⟨b, o, none⟩) ∧ w.cell? ⟨b, o, none⟩ = some v ∧ q w v
theorem CellP.st {q : World → Value → Prop} (h : St q) : St (CellP q) := fun w w' u hx ⟨b, o, v, h1, h2, h3⟩ => ⟨b, o, v, h1, hx.cell h2, h _ _ _ hx h3⟩
/-- A slice of the elements l. -/
def SlP {α : Type} (k : Nat) (R : World → List Value → α → Prop) (l : List α) : World → Value → Prop := fun w u => SlIn w k (R w) u l
def StR {α : Type} (R : World → List Value → α → Prop) : Prop := ∀ w w' cs x, Ext w w' → R w cs x → R w' cs x
theorem SlP.st {α : Type} {k : Nat} {R : World → List Value → α → Prop} {l : List α} (h : StR R) : St (SlP k R l) := fun w w' u hx hs => hs.mono hx fun cs x _ hR => h _ _ _ _ hx hR
theorem ClIn.st : StR ClIn := fun _ _ _ _ hx h => h.ext hx
theorem TstIn.st : StR (fun _ => TstIn) := fun _ _ _ _ _ h => h
theorem ExR.st : StR ExR := fun _ _ _ _ hx h => h.ext hx
def ExA (e : Ex) : World → Value → Prop := fun w u => ∃ cs, u = .agg cs.toArray ∧ ExR w cs e
theorem ExA.st {e : Ex} : St (ExA e) := fun w w' u hx ⟨cs, h1, h2⟩ => ⟨cs, h1, h2.ext hx⟩
theorem VarP.loc {n : Nat} {p : World → Value → Prop} {w : World} {u : Value} (h : VarP n p w u) : LocP n p w u := by
  obtain ⟨b, cs, h1, h2, h3, h4⟩ := h
  exact ⟨b, 0, cs, h1, h2, h3, h4⟩

section
variable {P : Program} {o : Oper} {ρ : Operand → Value} {w : World} {n : Nat} {p q : World → Value → Prop}
theorem op_loadL (ty : TypeId) (x : Operand) (ho : o.op = .load ty x) (d : TypeDesc) (hu : P.underlying ty = some d) (hd : d.isRow = true) (hi : (P.info? ty).map (·.size) = some n) (hx : LocP n p w (ρ x)) : OpPost P o ρ w fun u w' => Ext w w' ∧ p w' u := by
  obtain ⟨b, o', cs, h1, h2, h3, h4⟩ := hx
  exact post_load ty x ho b o' h1 cs d h3 hu hd (h2 ▸ hi) ⟨.refl _, h4⟩
theorem op_box {ty : TypeId} {x : Operand} (ho : o.op = .box ty x) (hst : St p) (hn : ∃ cs : List Value, ρ x = .agg cs.toArray ∧ cs.length = n) (h : p w (ρ x)) : OpPost P o ρ w fun u w' => Ext w w' ∧ VarP n p w' u := by
  obtain ⟨cs, hc, hl⟩ := hn
  rw [hc] at h
  refine post_value (u := .pointer (some ⟨w.heap.size, 0, none⟩)) (w' := w.alloc (.cells cs.toArray ty)) (by unfold execOp; rw [ho]; simp [hc, go_sem]) ⟨(Ext.refl _).alloc _, w.heap.size, cs, rfl, hl, range_alloc, hst _ _ _ ((Ext.refl _).alloc _) h⟩
theorem op_add {x y : Operand} {ty ty2 : TypeId} {a b : Int} (ho : o.op = .binOp .add ty x y ty2) (hx : Is (.int .i64 a) w (ρ x)) (hy : Is (.int .i64 b) w (ρ y)) (hr : I64 (a + b)) : OpPost P o ρ w fun u w' => Ext w w' ∧ Is (.int .i64 (a + b)) w' u := by
  have hx' : ρ x = .int .i64 a := hx
  have hy' : ρ y = .int .i64 b := hy
  have hw : IntKind.i64.wrap (a + b) = a + b := by rw [IntKind.wrap_i64]; unfold I64 at hr; omega
  exact post_value (u := .int .i64 (a + b)) (w' := w) (by unfold execOp; rw [ho]; simp [hx', hy', go_sem, hw]) ⟨.refl _, rfl⟩
theorem op_lss {x y : Operand} {ty ty2 : TypeId} {a b : Int} (ho : o.op = .binOp .lss ty x y ty2) (hx : Is (.int .i64 a) w (ρ x)) (hy : Is (.int .i64 b) w (ρ y)) : OpPost P o ρ w fun u w' => Ext w w' ∧ Is (.bool (decide (a < b))) w' u := by
  have hx' : ρ x = .int .i64 a := hx
  have hy' : ρ y = .int .i64 b := hy
  exact post_value (u := .bool (decide (a < b))) (w' := w) (by unfold execOp; rw [ho]; simp [hx', hy', go_sem]) ⟨.refl _, rfl⟩
theorem op_gtr {x y : Operand} {ty ty2 : TypeId} {a b : Int} (ho : o.op = .binOp .gtr ty x y ty2) (hx : Is (.int .i64 a) w (ρ x)) (hy : Is (.int .i64 b) w (ρ y)) : OpPost P o ρ w fun u w' => Ext w w' ∧ Is (.bool (decide (b < a))) w' u := by
  have hx' : ρ x = .int .i64 a := hx
  have hy' : ρ y = .int .i64 b := hy
  exact post_value (u := .bool (decide (b < a))) (w' := w) (by unfold execOp; rw [ho]; simp [hx', hy', go_sem]) ⟨.refl _, rfl⟩
theorem op_leq {x y : Operand} {ty ty2 : TypeId} {a b : Int} (ho : o.op = .binOp .leq ty x y ty2) (hx : Is (.int .i64 a) w (ρ x)) (hy : Is (.int .i64 b) w (ρ y)) : OpPost P o ρ w fun u w' => Ext w w' ∧ Is (.bool (decide (a ≤ b))) w' u := by
  have hx' : ρ x = .int .i64 a := hx
  have hy' : ρ y = .int .i64 b := hy
  exact post_value (u := .bool (decide (a ≤ b))) (w' := w) (by unfold execOp; rw [ho]; simp [hx', hy', go_sem]) ⟨.refl _, rfl⟩
theorem op_geq {x y : Operand} {ty ty2 : TypeId} {a b : Int} (ho : o.op = .binOp .geq ty x y ty2) (hx : Is (.int .i64 a) w (ρ x)) (hy : Is (.int .i64 b) w (ρ y)) : OpPost P o ρ w fun u w' => Ext w w' ∧ Is (.bool (decide (b ≤ a))) w' u := by
  have hx' : ρ x = .int .i64 a := hx
  have hy' : ρ y = .int .i64 b := hy
  exact post_value (u := .bool (decide (b ≤ a))) (w' := w) (by unfold execOp; rw [ho]; simp [hx', hy', go_sem]) ⟨.refl _, rfl⟩
theorem op_subI {x y : Operand} {ty ty2 : TypeId} {a b : Int} (ho : o.op = .binOp .sub ty x y ty2) (hx : Is (.int .i64 a) w (ρ x)) (hy : Is (.int .i64 b) w (ρ y)) (hr : I64 (a - b)) : OpPost P o ρ w fun u w' => Ext w w' ∧ Is (.int .i64 (a - b)) w' u := by
  have hx' : ρ x = .int .i64 a := hx
  have hy' : ρ y = .int .i64 b := hy
  have hw : IntKind.i64.wrap (a - b) = a - b := by rw [IntKind.wrap_i64]; unfold I64 at hr; omega
  exact post_value (u := .int .i64 (a - b)) (w' := w) (by unfold execOp; rw [ho]; simp [hx', hy', go_sem, hw]) ⟨.refl _, rfl⟩
theorem op_mulI {x y : Operand} {ty ty2 : TypeId} {a b : Int} (ho : o.op = .binOp .mul ty x y ty2) (hx : Is (.int .i64 a) w (ρ x)) (hy : Is (.int .i64 b) w (ρ y)) (hr : I64 (a * b)) : OpPost P o ρ w fun u w' => Ext w w' ∧ Is (.int .i64 (a * b)) w' u := by
  have hx' : ρ x = .int .i64 a := hx
  have hy' : ρ y = .int .i64 b := hy
  have hw : IntKind.i64.wrap (a * b) = a * b := by rw [IntKind.wrap_i64]; unfold I64 at hr; omega
  exact post_value (u := .int .i64 (a * b)) (w' := w) (by unfold execOp; rw [ho]; simp [hx', hy', go_sem, hw]) ⟨.refl _, rfl⟩
end

section
variable {o : Oper} {ρ : Operand → Value} {w : World} {n : Nat}
set_option maxHeartbeats 1000000
theorem op_lenCls {x : Operand} {α : Type} {k : Nat} {R : World → List Value → α → Prop} {l : List α} (ho : o.op = .call { callee := .builtin .len, args := #[x], argTypes := #[36] }) (hx : SlP k R l w (ρ x)) : OpPost Try.prog o ρ w fun u w' => Ext w w' ∧ Is (.int .i64 l.length) w' u := by
  obtain ⟨A, cap, h, hz⟩ := hx
  clear hz
  exact post_value (u := .int .i64 l.length) (w' := w) (by unfold execOp; rw [ho]; go_simp) ⟨.refl _, rfl⟩
theorem op_lenTsts {x : Operand} {α : Type} {k : Nat} {R : World → List Value → α → Prop} {l : List α} (ho : o.op = .call { callee := .builtin .len, args := #[x], argTypes := #[44] }) (hx : SlP k R l w (ρ x)) : OpPost Try.prog o ρ w fun u w' => Ext w w' ∧ Is (.int .i64 l.length) w' u := by
  obtain ⟨A, cap, h, hz⟩ := hx
  clear hz
  exact post_value (u := .int .i64 l.length) (w' := w) (by unfold execOp; rw [ho]; go_simp) ⟨.refl _, rfl⟩
theorem op_lenExs {x : Operand} {α : Type} {k : Nat} {R : World → List Value → α → Prop} {l : List α} (ho : o.op = .call { callee := .builtin .len, args := #[x], argTypes := #[24] }) (hx : SlP k R l w (ρ x)) : OpPost Try.prog o ρ w fun u w' => Ext w w' ∧ Is (.int .i64 l.length) w' u := by
  obtain ⟨A, cap, h, hz⟩ := hx
  clear hz
  exact post_value (u := .int .i64 l.length) (w' := w) (by unfold execOp; rw [ho]; go_simp) ⟨.refl _, rfl⟩
theorem op_eqlB {x y : Operand} {ty2 : TypeId} {a b : Bool} (ho : o.op = .binOp .eql 4 x y ty2) (hx : Is (.bool a) w (ρ x)) (hy : Is (.bool b) w (ρ y)) : OpPost Try.prog o ρ w fun u w' => Ext w w' ∧ Is (.bool (a == b)) w' u := by
  have hx' : ρ x = .bool a := hx
  have hy' : ρ y = .bool b := hy
  exact post_value (u := .bool (a == b)) (w' := w) (by unfold execOp; rw [ho]; clear hx hy; go_simp) ⟨.refl _, rfl⟩
theorem op_neqB {x y : Operand} {ty2 : TypeId} {a b : Bool} (ho : o.op = .binOp .neq 4 x y ty2) (hx : Is (.bool a) w (ρ x)) (hy : Is (.bool b) w (ρ y)) : OpPost Try.prog o ρ w fun u w' => Ext w w' ∧ Is (.bool (a != b)) w' u := by
  have hx' : ρ x = .bool a := hx
  have hy' : ρ y = .bool b := hy
  exact post_value (u := .bool (a != b)) (w' := w) (by unfold execOp; rw [ho]; clear hx hy; go_simp <;> (cases a <;> cases b <;> rfl)) ⟨.refl _, rfl⟩
theorem op_tfCls {x : Operand} {t : Tf} (ho : o.op = .fieldAddr 38 x 2) (h : LocP 3 (TfP t) w (ρ x)) : OpPost Try.prog o ρ w fun u w' => Ext w w' ∧ CellP (SlP 9 ClIn t.cls) w' u := by
  obtain ⟨b, off, cs, e, _, hr, cs', hcs, sv, hl, _, hs⟩ := h
  obtain rfl : cs = cs' := by simpa using hcs
  subst hl
  refine post_value (u := .pointer (some ⟨b, off + 2, none⟩)) (w' := w) (by unfold execOp; rw [ho]; clear hr hs; go_simp) ⟨.refl _, b, off + 2, sv, rfl, hr 2 sv rfl, hs⟩
theorem op_clWhen {x : Operand} {c : Cl} (ho : o.op = .fieldAddr 46 x 1) (h : LocP 9 (ClP c) w (ρ x)) : OpPost Try.prog o ρ w fun u w' => Ext w w' ∧ CellP (SlP 3 (fun _ => TstIn) c.tests) w' u := by
  obtain ⟨b, off, cs, e, _, hr, cs', hcs, sv, ps, hl, hs, _⟩ := h
  obtain rfl : cs = cs' := by simpa using hcs
  subst hl
  refine post_value (u := .pointer (some ⟨b, off + 1, none⟩)) (w' := w) (by unfold execOp; rw [ho]; clear hr hs; go_simp) ⟨.refl _, b, off + 1, sv, rfl, hr 1 sv rfl, hs⟩
theorem op_clPay {x : Operand} {c : Cl} (ho : o.op = .fieldAddr 46 x 2) (h : LocP 9 (ClP c) w (ρ x)) : OpPost Try.prog o ρ w fun u w' => Ext w w' ∧ LocP 7 (ExA c.pay) w' u := by
  obtain ⟨b, off, cs, e, _, hr, cs', hcs, sv, ps, hl, _, hp⟩ := h
  obtain rfl : cs = cs' := by simpa using hcs
  subst hl
  refine post_value (u := .pointer (some ⟨b, off + 2, none⟩)) (w' := w) (by unfold execOp; rw [ho]; clear hr hp; go_simp) ⟨.refl _, b, off + 2, ps, rfl, hp.elim fun _ h => h.len, fun j v hv => ?_, ps, rfl, hp⟩
  have := hr (2 + j) v (by rw [Nat.add_comm]; simpa using hv)
  rwa [← Nat.add_assoc] at this
theorem op_loadCls {x : Operand} {q : World → Value → Prop} (ho : o.op = .load 36 x) (h : CellP q w (ρ x)) : OpPost Try.prog o ρ w fun u w' => Ext w w' ∧ q w' u := by
  obtain ⟨b, off, v, e, hc, hq⟩ := h
  exact post_value (u := v) (w' := w) (by unfold execOp; rw [ho]; clear hq; go_simp) ⟨.refl _, hq⟩
theorem op_loadTsts {x : Operand} {q : World → Value → Prop} (ho : o.op = .load 44 x) (h : CellP q w (ρ x)) : OpPost Try.prog o ρ w fun u w' => Ext w w' ∧ q w' u := by
  obtain ⟨b, off, v, e, hc, hq⟩ := h
  exact post_value (u := v) (w' := w) (by unfold execOp; rw [ho]; clear hq; go_simp) ⟨.refl _, hq⟩
theorem op_loadExs {x : Operand} {q : World → Value → Prop} (ho : o.op = .load 24 x) (h : CellP q w (ρ x)) : OpPost Try.prog o ρ w fun u w' => Ext w w' ∧ q w' u := by
  obtain ⟨b, off, v, e, hc, hq⟩ := h
  exact post_value (u := v) (w' := w) (by unfold execOp; rw [ho]; clear hq; go_simp) ⟨.refl _, hq⟩
theorem op_loadInt {x : Operand} {q : World → Value → Prop} (ho : o.op = .load 3 x) (h : CellP q w (ρ x)) : OpPost Try.prog o ρ w fun u w' => Ext w w' ∧ q w' u := by
  obtain ⟨b, off, v, e, hc, hq⟩ := h
  exact post_value (u := v) (w' := w) (by unfold execOp; rw [ho]; clear hq; go_simp) ⟨.refl _, hq⟩
theorem ClP.of {w : World} {cs : List Value} {c : Cl} (h : ClIn w cs c) : ClP c w (.agg cs.toArray) := ⟨cs, rfl, h⟩
theorem op_clAt {x y : Operand} {l : List Cl} {i : Nat} {c : Cl} (ho : o.op = .indexAddr 36 x y) (h : SlP 9 ClIn l w (ρ x)) (hy : Is (.int .i64 i) w (ρ y)) (hi : l[i]? = some c) : OpPost Try.prog o ρ w fun u w' => Ext w w' ∧ LocP 9 (ClP c) w' u := by
  obtain ⟨A, cap, e, _, _, hs⟩ := h
  have hlt : i < l.length := (List.getElem?_eq_some_iff.1 hi).1
  obtain ⟨b, off, rfl, _, hel⟩ := hs (by omega)
  obtain ⟨cs, hl, hr, hc⟩ := hel i c hi
  have ey : ρ y = .int .i64 i := hy
  clear hy hs hel
  have h1 : (0 : Int) ≤ i := by omega
  have h2 : (i : Int) < l.length := by omega
  refine post_value (u := .pointer (some ⟨b, off + i * 9, none⟩)) (w' := w) (by unfold execOp; rw [ho]; clear hr hc hi; go_simp) ⟨.refl _, b, off + i * 9, cs, rfl, hl, hr, .of hc⟩
theorem op_exAt {x y : Operand} {l : List Ex} {i : Nat} {c : Ex} (ho : o.op = .indexAddr 24 x y) (h : SlP 7 ExR l w (ρ x)) (hy : Is (.int .i64 i) w (ρ y)) (hi : l[i]? = some c) : OpPost Try.prog o ρ w fun u w' => Ext w w' ∧ LocP 7 (ExA c) w' u := by
  obtain ⟨A, cap, e, _, _, hs⟩ := h
  have hlt : i < l.length := (List.getElem?_eq_some_iff.1 hi).1
  obtain ⟨b, off, rfl, _, hel⟩ := hs (by omega)
  obtain ⟨cs, hl, hr, hc⟩ := hel i c hi
  have ey : ρ y = .int .i64 i := hy
  clear hy hs hel
  have h1 : (0 : Int) ≤ i := by omega
  have h2 : (i : Int) < l.length := by omega
  refine post_value (u := .pointer (some ⟨b, off + i * 7, none⟩)) (w' := w) (by unfold execOp; rw [ho]; clear hr hc hi; go_simp) ⟨.refl _, b, off + i * 7, cs, rfl, hl, hr, cs, rfl, hc⟩
end
end Go.Proofs.Ytophdbbbojnobaa
