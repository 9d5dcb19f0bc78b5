/- A symbolic executor, part ZA: arguments are read back; summaries of functions that change no older memory. -/
import Derived.Test.YtcaomfbcchemnaaDoorEngZ
import Derived.Test.YtcaomfbcchemnaaDoorMem
namespace Go.Proofs.YtcaomfbcchemnaaDoor
open Go.RowKit
set_option linter.unusedVariables false

section
variable {Y : Thy} {E : Eng Y}

/-- how a value is read back -/
structure Dc (E : Eng Y) (α : Type) where
  dec : SV Y → Option α
  enc : α → SV Y
  ok : ∀ v a, dec v = some a → nid 0 v = true ∧ leaf v = leaf (enc a) ∧ ∀ σ g u, Den E σ g v u → Den E σ g (enc a) u
/-- how a list of values is read back -/
structure DcL (E : Eng Y) (α : Type) where
  dec : List (SV Y) → Option α
  enc : α → List (SV Y)
  ok : ∀ vs a, dec vs = some a → nidL 0 vs = true ∧ vs.length = (enc a).length ∧ ∀ σ g (j : Nat) sv', (enc a)[j]? = some sv' → ∃ sv, vs[j]? = some sv ∧ ∀ u, Den E σ g sv u → Den E σ g sv' u
def DcL.nil : DcL E Unit where
  dec vs := match vs with | [] => some () | _ => none
  enc _ := []
  ok vs a h := by
    split at h
    · exact ⟨rfl, rfl, fun σ g j sv' hj => by simp at hj⟩
    · cases h
def DcL.cons {α β : Type} (d : Dc E α) (r : DcL E β) : DcL E (α × β) where
  dec vs := match vs with | x :: xs => (match d.dec x with | some a => (match r.dec xs with | some b => some (a, b) | none => none) | none => none) | [] => none
  enc a := d.enc a.1 :: r.enc a.2
  ok vs a h := by
    split at h
    · rename_i x xs
      split at h
      · rename_i a1 h1
        split at h
        · rename_i b1 h2
          cases h
          obtain ⟨k1, k2, k3⟩ := d.ok _ _ h1
          obtain ⟨l1, l2, l3⟩ := r.ok _ _ h2
          refine ⟨by simp [nidL, k1, l1], by simp [l2], fun σ g j sv' hj => ?_⟩
          cases j with
          | zero => simp at hj; subst hj; exact ⟨x, rfl, k3 σ g⟩
          | succ j => exact l3 σ g j sv' (by simpa using hj)
        · cases h
      · cases h
    · cases h
def DcL.map {α β : Type} (r : DcL E α) (f : α → β) (e : β → α) (he : ∀ a, e (f a) = a) : DcL E β where
  dec vs := match r.dec vs with | some a => some (f a) | none => none
  enc b := r.enc (e b)
  ok vs b h := by
    split at h
    · rename_i a ha
      cases h
      rw [he]
      exact r.ok _ _ ha
    · cases h
def dInt (k : IntKind) : Dc E Int where
  dec v := match v with | .int _ k' n => (match decide (k' = k) with | true => some n | false => none) | _ => none
  enc n := .int false k n
  ok v a h := by
    split at h
    · split at h
      · rename_i e
        cases h
        obtain rfl := of_decide_eq_true e
        exact ⟨rfl, rfl, fun σ g u hd => by cases hd; exact .int _ _ _⟩
      · cases h
    · cases h
def dBool : Dc E Bool where
  dec v := match v with | .bool _ b => some b | _ => none
  enc b := .bool false b
  ok v a h := by
    split at h
    · cases h
      exact ⟨rfl, rfl, fun σ g u hd => by cases hd; exact .bool _ _⟩
    · cases h
def dStr : Dc E ByteArray where
  dec v := match v with | .str _ b => some b | _ => none
  enc b := .str false b
  ok v a h := by
    split at h
    · cases h
      exact ⟨rfl, rfl, fun σ g u hd => by cases hd; exact .str _ _⟩
    · cases h
def castO {th' th : Y.Th} (l : List (Y.dom th')) : Option (List (Y.dom th)) :=
  match Y.eq th' th with
  | isTrue e => Eq.rec (motive := fun t _ => Option (List (Y.dom t))) (some l) e
  | isFalse _ => none
theorem castO_of {th' th : Y.Th} {l : List (Y.dom th')} {l' : List (Y.dom th)} (h : castO l = some l') : ∃ e : th' = th, l' = e ▸ l := by
  unfold castO at h
  split at h
  · rename_i e _
    subst e
    exact ⟨rfl, (Option.some.inj h).symm⟩
  · cases h
def dList (th : Y.Th) : Dc E (List (Y.dom th)) where
  dec v := match v with | .psl th' l _ => castO l | .val (.slice none 0 0) => some [] | _ => none
  enc l := .psl th l false
  ok v a h := by
    split at h
    · obtain ⟨e, rfl⟩ := castO_of h
      subst e
      refine ⟨rfl, rfl, fun σ g u hd => ?_⟩
      obtain ⟨base, c, cv, rfl, h1, h2, h3, h4, h5, h6⟩ := den_psl hd
      exact .psl cv h1 h2 (by simp) h4 h5 h6
    · cases h
      refine ⟨rfl, rfl, fun σ g u hd => ?_⟩
      cases hd
      exact .psl (l := []) (fun _ _ => undef) (Nat.le_refl _) (by unfold maxLen; omega) (by simp) (fun _ => rfl) (by simp) (by simp)
    · cases h
/-- a row, its cells -/
def dAgg {α : Type} (r : DcL E α) : Dc E α where
  dec v := match v with | .agg cs => r.dec cs | _ => none
  enc a := .agg (r.enc a)
  ok v a h := by
    split at h
    · obtain ⟨k1, k2, k3⟩ := r.ok _ _ h
      refine ⟨by simpa [nid] using k1, rfl, fun σ g u hd => ?_⟩
      obtain ⟨arr, c, rfl, hs, hc, hd⟩ := den_agg hd
      refine .agg c (by omega) (fun j hj => hc j (by omega)) fun j sv' hj => ?_
      obtain ⟨sv, h1, h2⟩ := k3 σ g j sv' hj
      exact h2 _ (hd j sv h1)
    · cases h
def Dc.map {α β : Type} (r : Dc E α) (f : α → β) (e : β → α) (he : ∀ a, e (f a) = a) : Dc E β where
  dec v := match r.dec v with | some a => some (f a) | none => none
  enc b := r.enc (e b)
  ok v b h := by
    split at h
    · rename_i a ha
      cases h
      rw [he]
      exact r.ok _ _ ha
    · cases h

/-- summary: arguments, what they owe, the value -/
def sumP {α : Type} (d : DcL E α) (pre : α → Prop) (f : α → SV Y) : Sum Y := fun args _ _ k => match d.dec args with | some x => pre x ∧ k (quiet [] (f x)) | none => False
theorem PureC.of_dec {α : Type} {d : DcL E α} {f : FuncId} {args : List (SV Y)} {x : α} {v : SV Y} (hd : d.dec args = some x) (h : PureC E f (d.enc x) v) : PureC E f args v := by
  obtain ⟨k1, k2, k3⟩ := d.ok _ _ hd
  intro g w vals hI hden
  refine h g w vals hI ⟨k2.symm.trans hden.1, fun j sv' u h1 h2 => ?_⟩
  obtain ⟨sv, h3, h4⟩ := k3 σ0 g j sv' h1
  exact h4 u (hden.2 j sv u h3 h2)
theorem sumP_ok (hE : EngOk E) {α : Type} {f : Nat} (hg : FnGood E.P f) {d : DcL E α} {pre : α → Prop} {v : α → SV Y} (hp : ∀ x, pre x → PureC E f (d.enc x) (v x)) : SumOk E f (sumP d pre v) := by
  refine ⟨hg, fun args h i k hD hk => ?_⟩
  unfold sumP at hk
  split at hk
  · rename_i x hx
    obtain ⟨hpp, hk⟩ := hk
    exact ⟨_, hk, (PureC.of_dec hx (hp x hpp)).tri hE (d.ok _ _ hx).1 h i⟩
  · exact hk.elim

/-- one summary more, one loop more -/
def addS (F : Fns Y) (f : Nat) (S : Sum Y) : Fns Y := { sums := fun g => match Nat.beq g f with | true => some S | false => F.sums g, fns := F.fns, loops := F.loops }
def addL (F : Fns Y) (f j : Nat) (A : Fr Y → Hp Y → Nat → Ann Y) (E : Eng Y) : Fns Y := { sums := F.sums, fns := F.fns, loops := fun g k => match Nat.beq g f && Nat.beq k j with | true => some (loopL E A) | false => F.loops g k }
theorem addS_ok {F : Fns Y} (hF : FnsOk E F) {f : Nat} {S : Sum Y} (hS : SumOk E f S) : FnsOk E (addS F f S) := by
  have key : ∀ g S', (addS F f S).sums g = some S' → (g = f ∧ S' = S) ∨ F.sums g = some S' := by
    intro g S' h
    have h : (match Nat.beq g f with | true => some S | false => F.sums g) = some S' := h
    split at h
    · rename_i e
      cases h
      exact .inl ⟨Nat.eq_of_beq_eq_true e, rfl⟩
    · exact .inr h
  refine ⟨fun g S' h => ?_, hF.fnG, fun g S' h => ?_, hF.fn, hF.loop⟩
  · rcases key g S' h with ⟨rfl, rfl⟩ | h
    · exact hS.good
    · exact hF.sumG g S' h
  · rcases key g S' h with ⟨rfl, rfl⟩ | h
    · exact hS.ok
    · exact hF.sum g S' h
theorem addL_ok (hE : EngOk E) {F : Fns Y} (hF : FnsOk E F) (f j : Nat) (A : Fr Y → Hp Y → Nat → Ann Y) : FnsOk E (addL F f j A E) := by
  refine ⟨hF.sumG, hF.fnG, hF.sum, hF.fn, fun g k L h => ?_⟩
  have h : (match Nat.beq g f && Nat.beq k j with | true => some (loopL E A) | false => F.loops g k) = some L := h
  split at h
  · cases h
    exact loopL_ok hE A
  · exact hF.loop g k L h
theorem callOk_of (hE : EngOk E) {F : Fns Y} (hF : FnsOk E F) (n : Nat) : CallOk E (callF E F (vc E F n)) := callF_ok hE hF fun f N c => (vc_ok hE hF n f N c).1

/-! Where ways meet again: the value of the condition. -/
structure JR (P : (Bool → Prop) → Prop) (e : Bool) : Prop where
  ok : ∀ Q : Bool → Prop, Q e → P Q
theorem JR_leaf (b : Bool) : JR (fun Q => Q b) b := ⟨fun Q h => h⟩
theorem JR_ite {a e1 e2 : Bool} {P1 P2 : (Bool → Prop) → Prop} (h1 : a = true → JR P1 e1) (h2 : a = false → JR P2 e2) : JR (fun Q => (a = true → P1 Q) ∧ (a = false → P2 Q)) (bif a then e1 else e2) := by
  refine ⟨fun Q h => ?_⟩
  cases a
  · exact ⟨fun e => by simp at e, fun _ => (h2 rfl).ok Q h⟩
  · exact ⟨fun _ => (h1 rfl).ok Q h, fun e => by simp at e⟩
theorem JR_ix {α : Type} {l : List α} {n : Int} {P : α → (Bool → Prop) → Prop} {e : α → Bool} (h1 : 0 ≤ n) (h2 : n < l.length) (h3 : ∀ x, l[n.toNat]? = some x → JR (P x) (e x)) :
    JR (fun Q => 0 ≤ n ∧ n < l.length ∧ ∀ x, l[n.toNat]? = some x → P x Q) (match l[n.toNat]? with | some x => e x | none => false) := by
  refine ⟨fun Q h => ⟨h1, h2, fun x hx => (h3 x hx).ok Q ?_⟩⟩
  rw [hx] at h
  exact h
theorem JR_some {α : Type} {o : Option α} {P : α → (Bool → Prop) → Prop} {e : α → Bool} (h : ∀ x, o = some x → JR (P x) (e x)) : JR (fun Q => ∀ x, o = some x → P x Q) (o.elim false e) := by
  refine ⟨fun Q hq x hx => (h x hx).ok Q ?_⟩
  subst hx
  exact hq
theorem JR_and {A : Prop} {P : (Bool → Prop) → Prop} {e : Bool} (h1 : A) (h2 : JR P e) : JR (fun Q => A ∧ P Q) e := ⟨fun Q h => ⟨h1, h2.ok Q h⟩⟩
theorem join_e {P : (Bool → Prop) → Prop} {e : Bool} {Kt Kf : Prop} (h1 : JR P e) (h2 : e = true → Kt) (h3 : e = false → Kf) : ∃ Q : Bool → Prop, P Q ∧ (Q true → Kt) ∧ (Q false → Kf) :=
  ⟨fun b => e = b, h1.ok _ rfl, h2, h3⟩
theorem bif_true {a b : Bool} : (bif a then true else b) = (a || b) := by cases a <;> rfl
theorem bif_false {a b : Bool} : (bif a then b else false) = (a && b) := by cases a <;> rfl
theorem bif_nt {a b : Bool} : (bif a then false else b) = (!a && b) := by cases a <;> rfl
theorem bif_tf {a : Bool} : (bif a then true else false) = a := by cases a <;> rfl
theorem bif_ft {a : Bool} : (bif a then false else true) = !a := by cases a <;> rfl
theorem mm2_max (a b : Int) : mm2 true a b = max a b := by unfold mm2; simp only []; split <;> omega
theorem mm2_min (a b : Int) : mm2 false a b = min a b := by unfold mm2; simp only []; split <;> omega
theorem wr64 {n : Int} (h1 : -9223372036854775808 ≤ n) (h2 : n ≤ 9223372036854775807) : wr .i64 n = n := by simp only [wr, IntKind.wrap_i64]; omega
/-- from a contract that tells of no memory -/
theorem pure_of_ext {f : FuncId} {args : List (SV Y)} {v : SV Y} (h : ∀ (g : GH) (w : World) (vals : Array Value), DenL E σ0 g args vals.toList → Calls E.P f vals w fun en w' => ∃ u, en = .returned u ∧ Den E σ0 g v u ∧ Ext w w') : PureC E f args v := by
  intro g w vals hI hd
  refine (h g w vals hd).mono ?_
  rintro en w' ⟨u, he, hv, hx⟩
  refine ⟨u, he, g, ⟨.refl _, fun b p h => .inl h, .refl _, fun _ _ _ h => .inl h, fun _ _ h => .inl h, fun r hr _ => hx.block hr, hx.size, hx.os, hx.tape, hx.output, fun b r z h1 h2 => by cases h2⟩, ?_, hv⟩
  refine ⟨fun r o u hu => hx.cell (hI.gc r o u hu), fun r es hu => ?_, (fun b x hx => by cases hx), fun b b' r z z' h1 => absurd rfl h1, (fun b r z hs => by cases hs), (fun b x r z o v hx => by cases hx), (fun b x r z hx => by cases hx), hI.glob⟩
  obtain ⟨c, hc⟩ := hI.gm r es hu
  have hr : r < w.heap.size := by
    rcases Nat.lt_or_ge r w.heap.size with h | h
    · exact h
    · rw [Array.getElem?_eq_none h] at hc; cases hc
  exact ⟨c, by rw [hx.block hr]; exact hc⟩
theorem vals_eq {vals : Array Value} {l : List Value} (h : vals.toList = l) : vals = l.toArray := by rw [← h]
theorem denL_int2 {σ : Pl} {g : GH} {k k' : IntKind} {a b : Int} {f f' : Bool} {vals : Array Value} (h : DenL E σ g [.int f k a, .int f' k' b] vals.toList) : vals = #[.int k a, .int k' b] := by
  obtain ⟨h1, h2⟩ := h
  apply vals_eq
  match hv : vals.toList, h1, h2 with
  | [x, y], _, h2 =>
    have e1 := h2 0 _ x rfl rfl
    have e2 := h2 1 _ y rfl rfl
    cases e1; cases e2; rfl
theorem denL_int3 {σ : Pl} {g : GH} {k k' k2 : IntKind} {a b c : Int} {f f' f2 : Bool} {vals : Array Value} (h : DenL E σ g [.int f k a, .int f' k' b, .int f2 k2 c] vals.toList) : vals = #[.int k a, .int k' b, .int k2 c] := by
  obtain ⟨h1, h2⟩ := h
  apply vals_eq
  match hv : vals.toList, h1, h2 with
  | [x, y, z], _, h2 =>
    have e1 := h2 0 _ x rfl rfl
    have e2 := h2 1 _ y rfl rfl
    have e3 := h2 2 _ z rfl rfl
    cases e1; cases e2; cases e3; rfl
theorem den_pair {σ : Pl} {g : GH} {k k' : IntKind} {a b : Int} {f f' : Bool} : Den E σ g (.tup [.int f k a, .int f' k' b]) (.tuple #[.int k a, .int k' b]) := by
  refine .tup (fun j => #[.int k a, .int k' b].getD j undef) rfl (fun j hj => ?_) (fun j sv hj => ?_)
  · match j, hj with
    | 0, _ => rfl
    | 1, _ => rfl
  · match j, hj with
    | 0, hj => simp at hj; subst hj; exact .int _ _ _
    | 1, hj => simp at hj; subst hj; exact .int _ _ _
    | j + 2, hj => simp at hj
end
end Go.Proofs.YtcaomfbcchemnaaDoor
