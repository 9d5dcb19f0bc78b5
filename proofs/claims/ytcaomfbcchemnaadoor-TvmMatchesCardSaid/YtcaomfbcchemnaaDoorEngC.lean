/- A symbolic executor, part C: operations that only compute or read are sound. -/
import Derived.Test.YtcaomfbcchemnaaDoorEngB
namespace Go.Proofs.YtcaomfbcchemnaaDoor
open Go.RowKit
set_option linter.unusedVariables false

/-- An operation leaves a value, and a world, of which F holds. -/
def OpPost (P : Program) (o : Oper) (ρ : Operand → Value) (w : World) (F : Value → World → Prop) : Prop :=
  match (execOp ρ o).run P w with
  | .ok (.value v) w' => F v w'
  | .ok .skip w' => F undef w'
  | .ok (.enter f args) w' => Calls P f args w' fun en w'' => ∃ v, en = .returned v ∧ F v w''
  | _ => False
theorem OpPost.mono {P : Program} {o : Oper} {ρ : Operand → Value} {w : World} {F F' : Value → World → Prop} (h : OpPost P o ρ w F) (k : ∀ u w', F u w' → F' u w') : OpPost P o ρ w F' := by
  unfold OpPost at h ⊢
  split at h
  · exact k _ _ h
  · exact k _ _ h
  · exact h.mono fun en w'' ⟨v, he, hF⟩ => ⟨v, he, k _ _ hF⟩
  · exact h.elim
theorem OpPost.wp {P : Program} {o : Oper} {a : Act} {w : World} {F : Value → World → Prop} {K : Act → World → Prop} {Q : Exit → Act → World → Prop} (h : OpPost P o a.eval w F) (k : ∀ u w', F u w' → K (a.put o.dst u) w') : o.wp P a w K Q := by
  unfold OpPost at h
  unfold Oper.wp
  split at h
  · rename_i v w' he; rw [he]; exact k _ _ h
  · rename_i w' he; rw [he]; exact k _ _ h
  · rename_i f args w' he
    rw [he]
    rw [Oper.upon_enter]
    refine h.mono ?_
    rintro en w'' ⟨v, rfl, hF⟩
    exact k _ _ hF
  · exact h.elim
theorem post_value {P : Program} {o : Oper} {ρ : Operand → Value} {w w' : World} {u : Value} {F : Value → World → Prop} (h : (execOp ρ o).run P w = .ok (.value u) w') (hF : F u w') : OpPost P o ρ w F := by
  unfold OpPost; rw [h]; exact hF
theorem post_skip {P : Program} {o : Oper} {ρ : Operand → Value} {w w' : World} {F : Value → World → Prop} (h : (execOp ρ o).run P w = .ok .skip w') (hF : F undef w') : OpPost P o ρ w F := by
  unfold OpPost; rw [h]; exact hF
theorem post_enter {P : Program} {o : Oper} {ρ : Operand → Value} {w w' : World} {f : FuncId} {args : Array Value} {F : Value → World → Prop} (h : (execOp ρ o).run P w = .ok (.enter f args) w') (hc : Calls P f args w' fun en w'' => ∃ v, en = .returned v ∧ F v w'') : OpPost P o ρ w F := by
  unfold OpPost; rw [h]; exact hc

section
variable {Y : Thy} {E : Eng Y}

def Rd (r : Res Y) (b : Nat) : Prop := match r.rd with | none => True | some l => b ∈ l
/-- The operation does what the symbolic result r says, in every world that the symbolic memory describes. -/
def ROk (h : Hp Y) (r : Res Y) : Prop := ∀ b ∈ r.mods, h b ≠ none
def OpTri (E : Eng Y) (o : Oper) (T : Fr Y) (h : Hp Y) (i : Nat) (r : Res Y) : Prop :=
  ROk h r ∧ ∀ (B : Nat) (σ : Pl) (g : GH) (w : World) (ρ : Operand → Value) (hh : Hp Y), (∀ b, Rd r b → hh b = h b) → Inv E B σ hh g w → B ≤ w.heap.size → (∀ b, i ≤ b → b < i + r.n → σ b = none) →
    (∀ x ∈ o.op.operands.toList, Den E σ g (ev T x) (ρ x)) → OpPost E.P o ρ w fun u w' => ∃ σ' g', Stp i r.n r.mods σ g w σ' g' w' ∧ Inv E B σ' (patch hh i r) g' w' ∧ Den E σ' g' r.v u

theorem patch_quiet (h : Hp Y) (i : Nat) (rd : List Nat) (v : SV Y) : patch h i (quiet rd v) = h := by
  funext b
  simp only [patch, quiet, memB, Bool.false_or, Nat.add_zero]
  have : (Nat.ble i b && Nat.blt b i) = false := by
    rw [Bool.and_eq_false_iff]
    by_cases hb : i ≤ b
    · right; simp only [Nat.blt]; rw [← Bool.not_eq_true, Nat.ble_eq]; omega
    · left; rw [← Bool.not_eq_true, Nat.ble_eq]; exact hb
  rw [this]

/-- an operation that only computes -/
theorem tri_quiet {o : Oper} {T : Fr Y} {h : Hp Y} {i : Nat} {rd : List Nat} {v : SV Y}
    (H : ∀ (B : Nat) (σ : Pl) (g : GH) (w : World) (ρ : Operand → Value) (hh : Hp Y), (∀ b ∈ rd, hh b = h b) → Inv E B σ hh g w → (∀ x ∈ o.op.operands.toList, Den E σ g (ev T x) (ρ x)) →
      ∃ u, (execOp ρ o).run E.P w = .ok (.value u) w ∧ Den E σ g v u) : OpTri E o T h i (quiet rd v) := by
  refine ⟨fun b hb => by simp [quiet] at hb, ?_⟩
  intro B σ g w ρ hh hrd hI _ _ hx
  obtain ⟨u, hu, hd⟩ := H B σ g w ρ hh hrd hI hx
  refine post_value hu ⟨σ, g, .refl _ _ _ _, ?_, hd⟩
  rw [patch_quiet]; exact hI

theorem need_of {l : Bool} {p : Prop} [Decidable p] {K : Prop} (h : need l p K) : p ∧ K := by
  cases l with
  | true => simp only [need] at h; split at h <;> first | exact ⟨of_decide_eq_true ‹_›, h⟩ | exact h.elim
  | false => exact h
theorem split_of {l b : Bool} {K : Bool → Prop} (h : split l b K) : K b := by
  cases l with
  | true => exact h
  | false => cases b with
    | true => exact h.1 rfl
    | false => exact h.2 rfl
theorem forceB_eq {b : Bool} {k : Bool → Prop} : forceB b k ↔ k b := by cases b <;> exact Iff.rfl
theorem forceO_eq {c : Option Nat} {k : Option Nat → Prop} : forceO c k ↔ k c := by cases c <;> exact Iff.rfl
theorem forceN_eq {n : Nat} {k : Nat → Prop} : forceN n k ↔ k n := by cases n <;> exact Iff.rfl
theorem forceI_eq {n : Int} {k : Int → Prop} : forceI n k ↔ k n := by cases n <;> simp [forceI, forceN_eq]
theorem forceNL_eq : ∀ {l : List Nat} {k : List Nat → Prop}, forceNL l k ↔ k l
  | [], k => Iff.rfl
  | x :: r, k => by simp only [forceNL, forceN_eq, forceNL_eq (l := r)]
theorem forceInt_eq {l : Bool} {kd : IntKind} {n : Int} {k : SV Y → Prop} : (match l with | true => forceI n fun n => k (.int true kd n) | false => k (.int false kd n)) ↔ k (.int l kd n) := by cases l <;> simp [forceI_eq]
theorem getK_of {α : Type} {lit : Bool} {l : List α} {j : Nat} {k : α → Prop} (h : getK lit l j k) : j < l.length ∧ ∃ x, l[j]? = some x ∧ k x := by
  unfold getK at h
  split at h
  · split at h
    · rename_i x hx; exact ⟨(List.getElem?_eq_some_iff.1 hx).1, x, hx, h⟩
    · exact h.elim
  · obtain ⟨h1, h2⟩ := h
    exact ⟨h1, _, List.getElem?_eq_getElem h1, h2 _ (List.getElem?_eq_getElem h1)⟩
theorem ixK_of {α : Type} {lit : Bool} {l : List α} {n : Int} {k : α → Prop} (h : ixK lit l n k) : 0 ≤ n ∧ n < l.length ∧ ∃ x, l[n.toNat]? = some x ∧ k x := by
  unfold ixK at h
  split at h
  · split at h
    · rename_i x h1 hx
      have h0 := of_decide_eq_true h1
      have := (List.getElem?_eq_some_iff.1 hx).1
      exact ⟨h0, by omega, x, hx, h⟩
    · exact h.elim
  · obtain ⟨h0, h1, h2⟩ := h
    have : n.toNat < l.length := by omega
    exact ⟨h0, h1, _, List.getElem?_eq_getElem this, h2 _ (List.getElem?_eq_getElem this)⟩
theorem strK_of {lit : Bool} {s : ByteArray} {n : Int} {k : UInt8 → Prop} (h : strK lit s n k) : 0 ≤ n ∧ n < s.size ∧ ∃ x, s[n.toNat]? = some x ∧ k x := by
  unfold strK at h
  split at h
  · split at h
    · rename_i x h1 hx
      have h0 := of_decide_eq_true h1
      have : n.toNat < s.size := by
        by_cases c : n.toNat < s.size
        · exact c
        · simp [c] at hx
      exact ⟨h0, by omega, x, hx, h⟩
    · exact h.elim
  · obtain ⟨h0, h1, h2⟩ := h
    have : n.toNat < s.size := by omega
    have hx : s[n.toNat]? = some (s[n.toNat]'this) := by simp only [getElem?_pos, this]
    exact ⟨h0, h1, _, hx, h2 _ hx⟩
theorem caseK_of {n : Int} {k : Nat → Prop} : ∀ {c j : Nat}, caseK n k c j → (j : Int) ≤ n → n < j + c → k n.toNat
  | 0, j, _, h1, h2 => by omega
  | c + 1, j, h, h1, h2 => by
    obtain ⟨ha, hb⟩ := h
    by_cases e : n = j
    · have := ha (by simpa using e)
      rw [e]; simpa using this
    · exact caseK_of (hb (by simpa using e)) (by omega) (by omega)
theorem sameN_of {a b : Nat} {K : Prop} (h : sameN a b K) : a = b ∧ K := by
  unfold sameN at h
  split at h
  · exact ⟨Nat.eq_of_beq_eq_true ‹_›, h⟩
  · exact h.elim
theorem force0_eq {v : SV Y} {k : SV Y → Prop} : force0 v k ↔ k v := by
  cases v
  case int l kd n => exact forceInt_eq
  all_goals simp only [force0, forceB_eq, forceN_eq, forceO_eq]
theorem forceL0_eq {l : List (SV Y)} {k : List (SV Y) → Prop} : forceL0 l k ↔ k l := by
  induction l generalizing k with
  | nil => exact Iff.rfl
  | cons x r ih =>
    show force0 x (fun x => forceL0 r fun r => k (x :: r)) ↔ _
    rw [force0_eq, ih]
theorem force1_eq {v : SV Y} {k : SV Y → Prop} : force1 v k ↔ k v := by
  cases v
  case int l kd n => exact forceInt_eq
  all_goals simp only [force1, force0_eq, forceL0_eq, forceB_eq, forceN_eq, forceO_eq]
theorem forceL_eq {l : List (SV Y)} {k : List (SV Y) → Prop} : forceL l k ↔ k l := by
  induction l generalizing k with
  | nil => exact Iff.rfl
  | cons x r ih =>
    show force1 x (fun x => forceL r fun r => k (x :: r)) ↔ _
    rw [force1_eq, ih]
theorem force_eq {v : SV Y} {k : SV Y → Prop} : force v k ↔ k v := by
  cases v
  case int l kd n => exact forceInt_eq
  all_goals simp only [force, force1_eq, forceL_eq, forceL0_eq, forceB_eq, forceN_eq, forceO_eq]
theorem forceBlk_eq {b : Option (Blk Y)} {k : Option (Blk Y) → Prop} : forceBlk b k ↔ k b := by
  rcases b with _ | ⟨cs, fz, tg⟩ | ⟨th, l, fz⟩ | es <;> simp [forceBlk, forceL0_eq]

/-! The operations. -/
variable {o : Oper} {T : Fr Y} {h : Hp Y} {i : Nat} {k : Res Y → Prop} {call : Nat → List (SV Y) → Hp Y → Nat → (Res Y → Prop) → Prop}

theorem op_move_ok {x : Operand} (ho : o.op = .move x ∨ o.op = .assign x) (hk : k (quiet [] (ev T x))) : ∃ r, k r ∧ OpTri E o T h i r := by
  refine ⟨_, hk, tri_quiet fun B σ g w ρ hh _ hI hx => ⟨ρ x, ?_, hx x (by rcases ho with ho | ho <;> simp [ho, Op.operands])⟩⟩
  unfold execOp
  rcases ho with ho | ho <;> simp [ho, go_sem]

theorem op_pick_ok {c a b : Operand} (ho : o.op = .pick c a b) (hk : step E call o.op T h i k) : ∃ r, k r ∧ OpTri E o T h i r := by
  rw [ho] at hk
  simp only [step, stPick, stAlloc, stBox, stNil, stConv, stMap, stExt, stLen, stMm, stApp, stCopy, stVal, stCall, stBuild, stBuildS, stFunc, stSlice] at hk
  split at hk
  · rename_i l x hc
    have hk := split_of hk
    cases x with
    | true =>
      refine ⟨_, hk, tri_quiet fun B σ g w ρ hh _ hI hx => ⟨ρ a, ?_, hx a (by simp [ho, Op.operands])⟩⟩
      have h1 := hx c (by simp [ho, Op.operands])
      rw [hc] at h1
      generalize hv : ρ c = v at h1
      cases h1
      unfold execOp; simp [ho, hv, asBool, go_sem]
    | false =>
      refine ⟨_, hk, tri_quiet fun B σ g w ρ hh _ hI hx => ⟨ρ b, ?_, hx b (by simp [ho, Op.operands])⟩⟩
      have h1 := hx c (by simp [ho, Op.operands])
      rw [hc] at h1
      generalize hv : ρ c = v at h1
      cases h1
      unfold execOp; simp [ho, hv, asBool, go_sem]
  · exact hk.elim
end
end Go.Proofs.YtcaomfbcchemnaaDoor
