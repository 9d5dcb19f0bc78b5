/- A symbolic executor, part P: the elements of slices; append. -/
import Derived.Test.YtcaomfbcchemnaaDoorEngJ
import Derived.Laws.AppendOwn
namespace Go.Proofs.YtcaomfbcchemnaaDoor
open Go.RowKit
set_option linter.unusedVariables false

section
variable {Y : Thy} {E : Eng Y} {o : Oper} {T : Fr Y} {h : Hp Y} {i : Nat} {k : Res Y → Prop}

theorem den_sl {σ : Pl} {g : GH} {b off len w : Nat} {cap : Option Nat} {v : Value} (h : Den E σ g (.sl b off len w cap) v) : ∃ r z c, v = .slice (some ⟨r, off * w, none⟩) len c ∧ σ b = some (r, z) ∧ (off + c) * w ≤ z ∧ len ≤ c ∧ c ≤ maxLen ∧ ∀ m, cap = some m → c = m := by
  cases h with
  | sl h hz hl hm hc => exact ⟨_, _, _, rfl, h, hz, hl, hm, hc⟩

theorem castK_of {th' th : Y.Th} {l : List (Y.dom th')} {k : List (Y.dom th) → Prop} (hk : castK l k) : ∃ (e : th' = th), k (e ▸ l) := by
  unfold castK at hk
  split at hk
  · rename_i e _; subst e; exact ⟨rfl, hk⟩
  · exact hk.elim
theorem castK_eq {th' th : Y.Th} {l : List (Y.dom th')} {k : List (Y.dom th) → Prop} (hk : castK l k) : th' = th := (castK_of hk).1
theorem castK_self {th : Y.Th} {l : List (Y.dom th)} {k : List (Y.dom th) → Prop} (hk : castK l k) : k l := by
  obtain ⟨e, hk⟩ := castK_of hk
  exact hk
theorem emptyK_of {α : Type} {lit : Bool} {l : List α} {A B : Prop} (hk : emptyK lit l A B) : (l = [] ∧ A) ∨ (l ≠ [] ∧ B) := by
  cases lit with
  | true =>
    cases l with
    | nil => exact .inl ⟨rfl, hk⟩
    | cons x l => exact .inr ⟨by simp, hk⟩
  | false =>
    by_cases e : l = []
    · exact .inl ⟨e, hk.1 e⟩
    · exact .inr ⟨e, hk.2 e⟩

theorem decAll_den (hE : EngOk E) {th : Y.Th} : ∀ {n : Nat} {cs : List (SV Y)} {l : List (Y.dom th)}, decAll E th (chunks (E.w th) n cs) = some l →
    l.length = n ∧ ∀ (j : Nat) sv, (l.flatMap (E.enc th))[j]? = some sv → ∃ s0, cs[j]? = some s0 ∧ ∀ σ g v, Den E σ g s0 v → Den E σ g sv v := by
  intro n
  induction n with
  | zero => intro cs l h; simp [chunks, decAll] at h; subst h; simp
  | succ n ih =>
    intro cs l h
    simp only [chunks, decAll] at h
    split at h
    · rename_i x l' hx hl'
      obtain rfl := Option.some.inj h
      obtain ⟨h1, h2⟩ := ih hl'
      obtain ⟨d1, d2⟩ := hE.dec _ _ _ hx
      refine ⟨by simp [h1], fun j sv hj => ?_⟩
      rw [List.flatMap_cons] at hj
      by_cases e : j < E.w th
      · rw [List.getElem?_append_left (by rw [hE.enc]; exact e)] at hj
        obtain ⟨s0, hs0⟩ : ∃ s0, (cs.take (E.w th))[j]? = some s0 := ⟨_, List.getElem?_eq_getElem (by omega)⟩
        refine ⟨s0, ?_, fun σ g v hv => d2 σ g j s0 sv v hs0 hj hv⟩
        rw [List.getElem?_take, if_pos e] at hs0; exact hs0
      · rw [List.getElem?_append_right (by rw [hE.enc]; omega), hE.enc] at hj
        obtain ⟨s0, h3, h4⟩ := h2 _ sv hj
        refine ⟨s0, ?_, h4⟩
        rw [List.getElem?_drop] at h3
        rwa [show E.w th + (j - E.w th) = j by omega] at h3
    · cases h

/-- what is known of the elements of a slice -/
structure Cont (E : Eng Y) (σ : Pl) (g : GH) (w : World) (th : Y.Th) (l : List (Y.dom th)) (v : Value) (base : Option Addr) (c : Nat) (us : List Value) : Prop where
  v : v = .slice base l.length c
  le : l.length ≤ c
  mx : c ≤ maxLen
  nil : base = none → c = 0
  some : 0 < l.length → ∃ r o, base = Option.some ⟨r, o, none⟩
  len : us.length = l.length * E.w th
  cell : ∀ r o, base = Option.some ⟨r, o, none⟩ → ∀ (j : Nat) u, us[j]? = Option.some u → w.cell? ⟨r, o + j, none⟩ = Option.some u
  den : ∀ (j : Nat) sv u, (l.flatMap (E.enc th))[j]? = Option.some sv → us[j]? = Option.some u → Den E σ g sv u

theorem contK_ok (hE : EngOk E) {th : Y.Th} {x : SV Y} {k : Bool → List (Y.dom th) → List Nat → Prop} (hk : contK E h th x k) :
    ∃ lit l rd, k lit l rd ∧ ∀ (hh : Hp Y) (σ : Pl) (g : GH) (w : World) (B : Nat) (v : Value), (∀ b ∈ rd, hh b = h b) → Inv E B σ hh g w → Den E σ g x v → ∃ base c us, Cont E σ g w th l v base c us := by
  unfold contK at hk
  split at hk
  · refine ⟨_, _, _, hk, fun hh σ g w B v _ hI hd => ?_⟩
    cases hd
    exact ⟨none, 0, [], { v := rfl, le := Nat.le_refl _, mx := by { unfold maxLen; omega }, nil := fun _ => rfl, some := fun h => absurd h (by simp), len := by simp, cell := fun r o e => (by cases e), den := fun j sv u h _ => absurd h (by simp) }⟩
  · rename_i th' l full
    obtain ⟨e, hk⟩ := castK_of hk
    subst e
    refine ⟨_, _, _, hk, fun hh σ g w B v _ hI hd => ?_⟩
    obtain ⟨base, c, cv, rfl, hl, hm, hf, hn, hb, hd⟩ := den_psl hd
    refine ⟨base, c, (List.range (l.length * E.w th')).map fun j => cv (j / E.w th') (j % E.w th'), rfl, hl, hm, hn, fun hp => let ⟨r, o, e, _⟩ := hb hp; ⟨r, o, e⟩, by simp, ?_, ?_⟩
    · intro r o e j u hj
      rw [List.getElem?_map] at hj
      obtain ⟨j', hj', rfl⟩ := Option.map_eq_some_iff.1 hj
      obtain ⟨hlt, rfl⟩ : j < l.length * E.w th' ∧ j = j' := by
        obtain ⟨h1, h2⟩ := List.getElem?_eq_some_iff.1 hj'
        simp at h1 h2
        exact ⟨h1, h2⟩
      have hpos := hE.pos th'
      have hq : j / E.w th' < l.length := (Nat.div_lt_iff_lt_mul hpos).2 hlt
      obtain ⟨r', o', e', hcell⟩ := hb (Nat.lt_of_le_of_lt (Nat.zero_le _) hq)
      rw [e] at e'; cases e'
      have := hcell (j / E.w th') _ (List.getElem?_eq_getElem hq) (j % E.w th') (by rw [hE.enc]; exact Nat.mod_lt _ hpos)
      have he : o + j / E.w th' * E.w th' + j % E.w th' = o + j := by rw [Nat.add_assoc, Nat.mul_comm, Nat.div_add_mod]
      rw [he] at this
      exact hI.gc _ _ _ this
    · intro j sv u hj hu
      obtain ⟨q, p, x, rfl, hp, hq, hs⟩ := flat_inv hE th' l hj
      rw [List.getElem?_map] at hu
      obtain ⟨j', hj', rfl⟩ := Option.map_eq_some_iff.1 hu
      obtain ⟨hlt, rfl⟩ : q * E.w th' + p < l.length * E.w th' ∧ q * E.w th' + p = j' := by
        obtain ⟨h1, h2⟩ := List.getElem?_eq_some_iff.1 hj'
        simp at h1 h2
        exact ⟨h1, h2⟩
      have hpos := hE.pos th'
      have e1 : (q * E.w th' + p) / E.w th' = q := by rw [Nat.mul_comm, Nat.mul_add_div hpos, Nat.div_eq_of_lt hp, Nat.add_zero]
      have e2 : (q * E.w th' + p) % E.w th' = p := by rw [Nat.mul_comm, Nat.mul_add_mod, Nat.mod_eq_of_lt hp]
      rw [e1, e2]
      exact hd q x hq p sv hs
  · rename_i b off len w' cap
    -- a slice of a block
    have blk : ∀ (blk : Blk Y) (l : List (Y.dom th)), h b = some blk → (∀ es, blk ≠ .map es) → w' = E.w th → l.length = len → (∀ (j : Nat) sv, (l.flatMap (E.enc th))[j]? = some sv → ∃ s0, (blk.cells E)[off * w' + j]? = some s0 ∧ ∀ σ g v, Den E σ g s0 v → Den E σ g sv v) →
        ∀ (hh : Hp Y) (σ : Pl) (g : GH) (w : World) (B : Nat) (v : Value), (∀ b' ∈ [b], hh b' = h b') → Inv E B σ hh g w → Den E σ g (.sl b off len w' cap) v → ∃ base c us, Cont E σ g w th l v base c us := by
      intro blk l hb hm hw hl hc hh σ g w B v hrd hI hd
      obtain ⟨r, z, c, rfl, hσ, hz, hle, hmx, hcap⟩ := den_sl hd
      obtain ⟨r', z', hσ', hbo⟩ := hI.blk b blk ((hrd b (by simp)).trans hb)
      rw [hσ] at hσ'; cases hσ'
      obtain ⟨u, hu1, hu2⟩ := blk_cell hm hbo
      refine ⟨_, c, (List.range (l.length * E.w th)).map fun j => u (off * w' + j), by rw [hl], by omega, hmx, (fun e => by cases e), fun _ => ⟨_, _, rfl⟩, by simp, ?_, ?_⟩
      · intro r2 o2 e j u' hj
        cases e
        rw [List.getElem?_map] at hj
        obtain ⟨j', hj', rfl⟩ := Option.map_eq_some_iff.1 hj
        obtain ⟨hlt, rfl⟩ : j < l.length * E.w th ∧ j = j' := by
          obtain ⟨h1, h2⟩ := List.getElem?_eq_some_iff.1 hj'
          simp at h1 h2
          exact ⟨h1, h2⟩
        obtain ⟨s0, h1, _⟩ := hc j _ (List.getElem?_eq_getElem (by rw [flat_len hE]; exact hlt))
        exact hu1 _ (List.getElem?_eq_some_iff.1 h1).1
      · intro j sv u' hj hu'
        rw [List.getElem?_map] at hu'
        obtain ⟨j', hj', rfl⟩ := Option.map_eq_some_iff.1 hu'
        obtain ⟨hlt, rfl⟩ : j < l.length * E.w th ∧ j = j' := by
          obtain ⟨h1, h2⟩ := List.getElem?_eq_some_iff.1 hj'
          simp at h1 h2
          exact ⟨h1, h2⟩
        obtain ⟨s0, h1, h2⟩ := hc j sv hj
        exact h2 _ _ _ (hu2 _ _ h1)
    split at hk
    · rename_i th' l fz hb
      split at hk
      · rename_i hw
        have hw := Nat.eq_of_beq_eq_true hw
        obtain ⟨e, hk⟩ := castK_of hk
        subst e
        obtain ⟨hle, hk⟩ := need_of hk
        have hc : ∀ (j : Nat) sv, (((l.drop off).take len).flatMap (E.enc th'))[j]? = some sv → ∃ s0, ((Blk.rows th' l fz).cells E)[off * w' + j]? = some s0 ∧ ∀ σ g v, Den E σ g s0 v → Den E σ g sv v := by
          intro j sv hj
          obtain ⟨q, p, x, rfl, hp, hq, hs⟩ := flat_inv hE th' _ hj
          rw [List.getElem?_take] at hq
          split at hq
          · rw [List.getElem?_drop] at hq
            refine ⟨sv, ?_, fun _ _ _ h => h⟩
            simp only [Blk.cells]
            rw [hw, ← Nat.add_assoc, ← Nat.add_mul, flat_get hE th' l _ x hq p hp]; exact hs
          · cases hq
        have hlen : ((l.drop off).take len).length = len := by simp at hle ⊢; omega
        have hk' : k E.lit ((l.drop off).take len) [b] := by
          revert hk
          cases off with
          | zero => simp only [List.drop_zero]; exact id
          | succ off => exact id
        exact ⟨_, _, _, hk', blk (.rows th' l fz) _ hb (by intro es e; cases e) hw hlen hc⟩
      · exact hk.elim
    · rename_i cs fz tg hb
      split at hk
      · rename_i l hw hdec
        have hw := Nat.eq_of_beq_eq_true hw
        rw [hw] at hdec
        obtain ⟨h1, h2⟩ := decAll_den hE hdec
        refine ⟨_, _, _, hk, blk (.raw cs fz tg) l hb (by intro es e; cases e) hw h1 fun j sv hj => ?_⟩
        obtain ⟨s0, h3, h4⟩ := h2 j sv hj
        rw [List.getElem?_drop] at h3
        exact ⟨s0, by rw [hw]; exact h3, h4⟩
      · exact hk.elim
    · exact hk.elim
  · exact hk.elim
end
end Go.Proofs.YtcaomfbcchemnaaDoor
