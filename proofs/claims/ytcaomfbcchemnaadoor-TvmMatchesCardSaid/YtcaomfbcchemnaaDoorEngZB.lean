/- A symbolic executor, part ZB: two engines over one program. -/
import Derived.Test.YtcaomfbcchemnaaDoorEngZA
namespace Go.Proofs.YtcaomfbcchemnaaDoor
open Go.RowKit
set_option linter.unusedVariables false

section
variable {Y : Thy} {E E' : Eng Y}
/-- the same program, the same kinds of lists, but for flags -/
structure EngLike (E E' : Eng Y) : Prop where
  P : E.P = E'.P
  w : E.w = E'.w
  glob : E.glob = E'.glob
  len : ∀ th x, (E.enc th x).length = (E'.enc th x).length
  enc : ∀ th x (j : Nat) sv', (E'.enc th x)[j]? = some sv' → ∃ sv, (E.enc th x)[j]? = some sv ∧ ∀ σ g v, Den E' σ g sv v → Den E' σ g sv' v
theorem Den.like (hE : EngLike E E') {σ : Pl} {g : GH} {sv : SV Y} {v : Value} (h : Den E σ g sv v) : Den E' σ g sv v := by
  induction h with
  | unk v => exact .unk v
  | val v => exact .val v
  | int l k n => exact .int l k n
  | bool l b => exact .bool l b
  | str l s => exact .str l s
  | ptr h => exact .ptr h
  | eptr h => exact .eptr h
  | pptr c hc _ ih => exact .pptr c (fun j hj => hc j (by rw [hE.len]; exact hj)) fun j sv' hj => let ⟨sv, h1, h2⟩ := hE.enc _ _ j sv' hj; h2 _ _ _ (ih j sv h1)
  | sl h hz hl hm hc => exact .sl h hz hl hm hc
  | psl cv hl hm hf hn hb _ ih =>
    refine .psl cv hl hm hf hn (fun hp => ?_) fun i x hx j sv' hj => let ⟨sv, h1, h2⟩ := hE.enc _ _ j sv' hj; h2 _ _ _ (ih i x hx j sv h1)
    obtain ⟨r, o, e, h⟩ := hb hp
    exact ⟨r, o, e, fun i x hx j hj => by rw [← hE.w]; exact h i x hx j (by rw [hE.len]; exact hj)⟩
  | agg c hs hc _ ih => exact .agg c hs hc ih
  | tup c hs hc _ ih => exact .tup c hs hc ih
  | fn ca cb hsa hca _ hsb hcb _ iha ihb => exact .fn ca cb hsa hca iha hsb hcb ihb
  | map h => exact .map h
  | pmap c q ho hq hn h1 h2 _ ih => exact .pmap c q ho hq hn h1 h2 ih
  | iface _ ih => exact .iface ih
theorem inv_like (hE : EngLike E E') {B B' : Nat} {g : GH} {w : World} (h : Inv E B σ0 hp0 g w) : Inv E' B' σ0 hp0 g w := by
  refine ⟨h.gc, h.gm, (fun b x hx => by cases hx), fun b b' r z z' h1 => absurd rfl h1, (fun b r z hs => by cases hs), (fun b x r z o v hx => by cases hx), (fun b x r z hx => by cases hx), fun n sv hn => ?_⟩
  rw [← hE.glob] at hn
  obtain ⟨v, h1, h2⟩ := h.glob n sv hn
  exact ⟨v, h1, h2.like hE⟩
theorem PureC.like (h1 : EngLike E E') (h2 : EngLike E' E) {f : FuncId} {args : List (SV Y)} {v : SV Y} (h : PureC E f args v) : PureC E' f args v := by
  intro g w vals hI hd
  have := h g w vals (inv_like h2 hI) ⟨hd.1, fun j sv u k1 k2 => (hd.2 j sv u k1 k2).like h2⟩
  rw [h1.P] at this
  refine this.mono ?_
  rintro en w' ⟨u, he, g', hS, hI', hv⟩
  exact ⟨u, he, g', hS, inv_like h1 hI', hv.like h1⟩
end
end Go.Proofs.YtcaomfbcchemnaaDoor
