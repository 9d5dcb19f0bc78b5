/- Merged texts: TpPe, TpPf, TpPg, TpS, TpT, TpW, TpX. -/
import Derived.Test.YtbepgmadijomjaaGreatDoorMe
namespace Go.Proofs.YtbepgmadijomjaaGreatDoor
set_option linter.unusedVariables false
set_option linter.unusedSimpArgs false
set_option maxRecDepth 100000
section
open Go
abbrev PP (β : Type) := List Tok → Int → PR β
section
variable {α β : Type}
def Okp (rel : β → β → Prop) (p : PP β) (l : List Tok) (y : β) (k : Nat) : Prop :=
 k ≤ l.length ∧ ∀ (l' : List Tok) (m : Nat) (f : Int), l'.map sT = (l.map sT).take m →
  (k ≤ m → p l' f = .ok (y, l'.drop k, f, ())) ∧ (m < k → p l' f = .error (f, 160) ∨ ∃ y', rel y' y ∧ p l' f = .ok (y', [], f, ()))
def ErrS (p : PP β) (l : List Tok) (e : Int) (er : Int × Int) : Prop := ∃ (j : Nat) (c : Int), er = (hdT e (l.drop j), c) ∧ (c = 2 ∨ c = 160 ∨ c = 161) ∧ ∀ (l' : List Tok) (f : Int), l'.map sT = l.map sT → p l' f = .error (hdT f (l'.drop j), c)
def Gd (rel : β → β → Prop) (p : PP β) : Prop := ∀ l e, (∀ y x, p l e = .ok (y, x) → ∃ k, x = (l.drop k, e, ()) ∧ Okp rel p l y k) ∧ ∀ er, p l e = .error er → ErrS p l e er
theorem ErrS.hd {p : PP β} {l : List Tok} {e : Int} {c : Int} (hc : c = 2 ∨ c = 160 ∨ c = 161) (h : ∀ (l' : List Tok) (f : Int), l'.map sT = l.map sT → p l' f = .error (hdT f l', c)) : ErrS p l e (hdT e l, c) := ⟨0, c, rfl, hc, h⟩
theorem Zbi {l l' : List Tok} (h : l'.map sT = l.map sT) : l'.map sT = (l.map sT).take l.length := by rw [h, List.take_of_length_le (by simp)]
theorem Gd.mono {rel rel' : β → β → Prop} {p : PP β} (h : Gd rel p) (hr : ∀ a b, rel a b → rel' a b) : Gd rel' p := by
 intro l e
 refine ⟨fun y x hy => ?_, (h l e).2⟩
 obtain ⟨k, h1, h2, h3⟩ := (h l e).1 y x hy
 refine ⟨k, h1, h2, fun l' m f hl => ⟨(h3 l' m f hl).1, fun hm => ((h3 l' m f hl).2 hm).imp id ?_⟩⟩
 rintro ⟨y', h4, h5⟩
 exact ⟨y', hr _ _ h4, h5⟩
def pR (y : β) : PP β := fun l e => .ok (y, l, e, ())
def pSyn : PP β := fun l e => .error (hdT e l, 160)
theorem Vj {l' : List Tok} {m : Nat} (h : l'.map sT = (([] : List Tok).map sT).take m) : l' = [] := by
 rw [List.map_nil, List.take_nil] at h
 exact List.map_eq_nil_iff.1 h
theorem gd_R (rel : β → β → Prop) (y : β) : Gd rel (pR y) := by
 intro l e
 refine ⟨fun z x h => ?_, fun er h => by cases h⟩
 unfold pR at h
 cases h
 refine ⟨0, rfl, Nat.zero_le _, fun l' m f _ => ⟨fun _ => rfl, fun h => by omega⟩⟩
theorem Vq (rel : β → β → Prop) : Gd rel (pSyn : PP β) := by
 intro l e
 refine ⟨fun z x h => (by cases h), fun er h => ?_⟩
 unfold pSyn at h
 cases h
 exact .hd (by simp) fun l' f _ => rfl
def pBc (p : PP α) (c : α → Bool) (code : Int) (q : α → PP β) : PP β := fun l e =>
 match p l e with
 | .error er => .error er
 | .ok (y, x) => if c y then .error (hdT e l, code) else q y x.1 x.2.1
def pB (p : PP α) (q : α → PP β) : PP β := fun l e =>
 match p l e with
 | .error er => .error er
 | .ok (y, x) => q y x.1 x.2.1
theorem Ztp {l' : List Tok} {l : List Tok} {m k : Nat} (h : l'.map sT = (l.map sT).take m) : (l'.drop k).map sT = ((l.drop k).map sT).take (m - k) := by
 rw [List.map_drop, h, List.map_drop, List.drop_take]
theorem Zya {rel : α → α → Prop} {rel' : β → β → Prop} {p : PP α} {c : α → Bool} {code : Int} {q : α → PP β} (hp : Gd rel p) (hq : ∀ y, Gd rel' (q y)) (hcode : code = 2 ∨ code = 160 ∨ code = 161) (hc : ∀ y y', rel y' y → c y = false → c y' = false)
 (h0 : ∀ y y' l e z x, rel y' y → q y l e = .ok (z, x) → ∀ f, q y' [] f = .error (f, 160) ∨ ∃ z', rel' z' z ∧ q y' [] f = .ok (z', [], f, ())) : Gd rel' (pBc p c code q) := by
 intro l e
 have E : ∀ l e, pBc p c code q l e = match p l e with | .error er => .error er | .ok (y, x) => if c y then .error (hdT e l, code) else q y x.1 x.2.1 := fun _ _ => rfl
 rw [E]
 cases h : p l e with
 | error er =>
  refine ⟨fun z x h => (by cases h), fun er' h' => ?_⟩
  cases h'
  obtain ⟨j, c0, h1, h2, h3⟩ := (hp l e).2 er h
  exact ⟨j, c0, h1, h2, fun l' f hl => by rw [E, h3 l' f hl]⟩
 | ok y =>
  obtain ⟨y, x⟩ := y
  obtain ⟨k1, rfl, h1, h2⟩ := (hp l e).1 y x h
  dsimp only
  cases hcy : c y with
  | true =>
   refine ⟨fun z x h => (by cases h), fun er' h' => ?_⟩
   cases h'
   refine .hd hcode fun l' f hl => ?_
   rw [E, (h2 l' l.length f (Zbi hl)).1 h1]
   dsimp only
   rw [hcy, if_pos rfl]
  | false =>
   rw [if_neg Bool.false_ne_true]
   refine ⟨fun z x2 hz => ?_, fun er' h' => ?_⟩
   rotate_left
   · obtain ⟨j, c0, h3, h4, h5⟩ := (hq y _ _).2 er' h'
     refine ⟨k1 + j, c0, by rw [h3, List.drop_drop], h4, fun l' f hl => ?_⟩
     rw [E, (h2 l' l.length f (Zbi hl)).1 h1]
     dsimp only
     rw [hcy, if_neg Bool.false_ne_true, h5 (l'.drop k1) f (by rw [List.map_drop, hl, List.map_drop]), List.drop_drop]
   obtain ⟨k2, rfl, h3, h4⟩ := (hq y _ _).1 z x2 hz
   rw [List.length_drop] at h3
   refine ⟨k1 + k2, by rw [List.drop_drop], by omega, fun l' m f hl => ?_⟩
   have hd := Ztp (k := k1) hl
   rw [E]
   refine ⟨fun hm => ?_, fun hm => ?_⟩
   · rw [(h2 l' m f hl).1 (by omega)]
     dsimp only
     rw [hcy, if_neg Bool.false_ne_true, (h4 _ _ f hd).1 (by omega), List.drop_drop]
   · by_cases hk : k1 ≤ m
     · rw [(h2 l' m f hl).1 hk]
       dsimp only
       rw [hcy, if_neg Bool.false_ne_true]
       exact (h4 _ _ f hd).2 (by omega)
     · rcases (h2 l' m f hl).2 (by omega) with h5 | ⟨y', h5, h6⟩
       · rw [h5]
         exact .inl rfl
       · rw [h6]
         dsimp only
         rw [hc y y' h5 hcy, if_neg Bool.false_ne_true]
         exact h0 y y' _ _ z _ h5 hz f
theorem Z8q (p : PP α) (q : α → PP β) : pB p q = pBc p (fun _ => false) 2 q := by
 funext l e
 unfold pB pBc
 cases p l e with
 | error er => rfl
 | ok y => rfl
theorem gd_b {rel : α → α → Prop} {rel' : β → β → Prop} {p : PP α} {q : α → PP β} (hp : Gd rel p) (hq : ∀ y, Gd rel' (q y))
 (h0 : ∀ y y' l e z x, rel y' y → q y l e = .ok (z, x) → ∀ f, q y' [] f = .error (f, 160) ∨ ∃ z', rel' z' z ∧ q y' [] f = .ok (z', [], f, ())) : Gd rel' (pB p q) := by
 rw [Z8q]
 exact Zya hp hq (by simp) (fun _ _ _ _ => rfl) h0
def pIf (s : List Nat) (A B : PP β) : PP β := fun l e => if isW s l then A l.tail e else B l e
theorem Wc {t t' : Tok} (h : sT t' = sT t) : t'.kind = t.kind ∧ t'.text = t.text ∧ t'.n = t.n := by
 unfold sT atT at h
 injection h with h1 h2 h3 h4
 exact ⟨h1, h2, h3⟩
theorem Zjk {s : List Nat} {t t' : Tok} {r r' : List Tok} (h : sT t' = sT t) : isW s (t' :: r') = isW s (t :: r) := by
 obtain ⟨h1, h2, _⟩ := Wc h
 show (!(t'.kind == 2) && t'.text == s) = (!(t.kind == 2) && t.text == s)
 rw [h1, h2]
theorem Y1 {l' l : List Tok} {m : Nat} (h : l'.map sT = (l.map sT).take m) : (l' = [] ∧ (m = 0 ∨ l = [])) ∨ ∃ t' r' t r m', l' = t' :: r' ∧ l = t :: r ∧ m = m' + 1 ∧ sT t' = sT t ∧ r'.map sT = (r.map sT).take m' := by
 cases m with
 | zero =>
  rw [List.take_zero] at h
  exact .inl ⟨List.map_eq_nil_iff.1 h, .inl rfl⟩
 | succ m =>
  cases l with
  | nil => exact .inl ⟨Vj h, .inr rfl⟩
  | cons t r =>
   cases l' with
   | nil => simp at h
   | cons t' r' =>
    rw [List.map_cons, List.map_cons, List.take_succ_cons] at h
    injection h with h1 h2
    exact .inr ⟨t', r', t, r, m, rfl, rfl, rfl, h1, h2⟩
theorem Vt {rel : β → β → Prop} {s : List Nat} {A B : PP β} (hA : Gd rel A) (hB : Gd rel B) (h0 : ∀ l e y x, A l e = .ok (y, x) → ∀ f, B [] f = .error (f, 160) ∨ ∃ y', rel y' y ∧ B [] f = .ok (y', [], f, ())) : Gd rel (pIf s A B) := by
 intro l e
 have E : ∀ l e, pIf s A B l e = if isW s l then A l.tail e else B l e := fun _ _ => rfl
 rw [E]
 cases hw : isW s l with
 | true =>
  rw [if_pos rfl]
  cases l with
  | nil => cases hw
  | cons t r =>
   refine ⟨fun y x hy => ?_, fun er h => ?_⟩
   rotate_left
   · obtain ⟨j, c0, h3, h4, h5⟩ := (hA r e).2 er h
     refine ⟨j + 1, c0, h3, h4, fun l' f hl => ?_⟩
     rcases Y1 (Zbi hl) with ⟨rfl, h6⟩ | ⟨t', r', t2, r2, m', rfl, h6, h7, h8, h9⟩
     · simp at hl
     · cases h6
       rw [E, Zjk (r' := r') (r := r) h8, hw, if_pos rfl]
       refine h5 r' f ?_
       simpa using (List.cons.inj hl).2
   obtain ⟨k, rfl, h1, h2⟩ := (hA r e).1 y x hy
   refine ⟨k + 1, rfl, by simpa using h1, fun l' m f hl => ?_⟩
   rw [E]
   rcases Y1 hl with ⟨rfl, h3⟩ | ⟨t', r', t2, r2, m', rfl, h3, rfl, h4, h5⟩
   · have hm : m = 0 := by
      rcases h3 with h3 | h3
      · exact h3
      · cases h3
     subst hm
     refine ⟨fun h => by omega, fun _ => ?_⟩
     rw [show isW s [] = false from rfl, if_neg Bool.false_ne_true]
     exact h0 _ _ _ _ hy f
   · cases h3
     rw [Zjk (r' := r') (r := r) h4, hw, if_pos rfl]
     exact ⟨fun hm => (h2 r' m' f h5).1 (by omega), fun hm => (h2 r' m' f h5).2 (by omega)⟩
 | false =>
  rw [if_neg Bool.false_ne_true]
  have nW : ∀ (l' : List Tok) (m : Nat), l'.map sT = (l.map sT).take m → isW s l' = false := by
   intro l' m hl
   rcases Y1 hl with ⟨rfl, _⟩ | ⟨t', r', t, r, m', rfl, rfl, rfl, h4, h5⟩
   · rfl
   · rw [Zjk (r := r) h4]
     exact hw
  refine ⟨fun y x hy => ?_, fun er h => ?_⟩
  rotate_left
  · obtain ⟨j, c0, h3, h4, h5⟩ := (hB l e).2 er h
    refine ⟨j, c0, h3, h4, fun l' f hl => ?_⟩
    rw [E, nW l' l.length (Zbi hl), if_neg Bool.false_ne_true]
    exact h5 l' f hl
  obtain ⟨k, rfl, h1, h2⟩ := (hB l e).1 y x hy
  refine ⟨k, rfl, h1, fun l' m f hl => ?_⟩
  rw [E]
  have := nW l' m hl
  rw [this, if_neg Bool.false_ne_true]
  exact h2 l' m f hl
def pOne (c : Tok → Bool) (v : Tok → β) : PP β := fun l e =>
 match l with
 | [] => .error (e, 160)
 | t :: r => if c (sT t) then .ok (v (sT t), r, e, ()) else .error (t.at_, 160)
theorem Z01 (rel : β → β → Prop) (c : Tok → Bool) (v : Tok → β) : Gd rel (pOne c v) := by
 intro l e
 cases l with
 | nil =>
  refine ⟨fun y x hy => (by cases hy), fun er h => ?_⟩
  cases h
  refine .hd (by simp) fun l' f hl => ?_
  have : l' = [] := Vj (m := 0) (by simpa using hl)
  subst this
  rfl
 | cons t r =>
  have E : ∀ t r e, pOne c v (t :: r) e = if c (sT t) then .ok (v (sT t), r, e, ()) else .error (t.at_, 160) := fun _ _ _ => rfl
  rw [E]
  cases hc : c (sT t) with
  | false =>
   rw [if_neg Bool.false_ne_true]
   refine ⟨fun y x hy => (by cases hy), fun er h => ?_⟩
   cases h
   refine .hd (l := t :: r) (by simp) fun l' f hl => ?_
   cases l' with
   | nil => simp at hl
   | cons t' r' =>
    have h1 : sT t' = sT t := (List.cons.inj hl).1
    rw [E, h1, hc, if_neg Bool.false_ne_true]
    rfl
  | true =>
   rw [if_pos rfl]
   refine ⟨fun y x hy => ?_, fun er h => (by cases h)⟩
   cases hy
   refine ⟨1, rfl, by simp, fun l' m f hl => ?_⟩
   rcases Y1 hl with ⟨rfl, h3⟩ | ⟨t', r', t2, r2, m', rfl, h3, rfl, h4, h5⟩
   · have hm : m = 0 := by
      rcases h3 with h3 | h3
      · exact h3
      · cases h3
     subst hm
     exact ⟨fun h => by omega, fun _ => .inl rfl⟩
   · cases h3
     rw [E, h4, hc, if_pos rfl]
     exact ⟨fun _ => rfl, fun h => by omega⟩
def pOpt (c : Tok → Bool) (v : Tok → β) (z : β) : PP β := fun l e =>
 match l with
 | [] => .ok (z, [], e, ())
 | t :: r => if c (sT t) then .ok (v (sT t), r, e, ()) else .ok (z, t :: r, e, ())
theorem Ztq (c : Tok → Bool) (v : Tok → β) (z : β) : Gd (fun a _ => a = z) (pOpt c v z) := by
 intro l e
 cases l with
 | nil =>
  refine ⟨fun y x hy => ?_, fun er h => (by cases h)⟩
  cases hy
  refine ⟨0, rfl, Nat.zero_le _, fun l' m f hl => ⟨fun _ => ?_, fun h => by omega⟩⟩
  have : l' = [] := Vj hl
  subst this
  rfl
 | cons t r =>
  have E : ∀ t r e, pOpt c v z (t :: r) e = if c (sT t) then .ok (v (sT t), r, e, ()) else .ok (z, t :: r, e, ()) := fun _ _ _ => rfl
  rw [E]
  cases hc : c (sT t) with
  | false =>
   rw [if_neg Bool.false_ne_true]
   refine ⟨fun y x hy => ?_, fun er h => (by cases h)⟩
   cases hy
   refine ⟨0, rfl, Nat.zero_le _, fun l' m f hl => ⟨fun _ => ?_, fun h => by omega⟩⟩
   rcases Y1 hl with ⟨rfl, _⟩ | ⟨t', r', t2, r2, m', rfl, h3, rfl, h4, h5⟩
   · rfl
   · cases h3
     rw [E, h4, hc, if_neg Bool.false_ne_true]
     rfl
  | true =>
   rw [if_pos rfl]
   refine ⟨fun y x hy => ?_, fun er h => (by cases h)⟩
   cases hy
   refine ⟨1, rfl, by simp, fun l' m f hl => ?_⟩
   rcases Y1 hl with ⟨rfl, h3⟩ | ⟨t', r', t2, r2, m', rfl, h3, rfl, h4, h5⟩
   · have hm : m = 0 := by
      rcases h3 with h3 | h3
      · exact h3
      · cases h3
     subst hm
     exact ⟨fun h => by omega, fun _ => .inr ⟨z, rfl, rfl⟩⟩
   · cases h3
     rw [E, h4, hc, if_pos rfl]
     exact ⟨fun _ => rfl, fun h => by omega⟩
end
abbrev NoR {β : Type} : β → β → Prop := fun _ _ => False
abbrev AnyR {β : Type} : β → β → Prop := fun _ _ => True
abbrev NeR : Ex → Ex → Prop := fun a b => Zw a ≤ Zw b
theorem Zyb : pInt = pOne (fun t => t.kind = 2) (fun t => t.n) := by
 funext l e
 cases l with
 | nil => rfl
 | cons t r =>
  show (if t.kind = 2 then _ else _) = (if decide (t.kind = 2) = true then _ else _)
  by_cases h : t.kind = 2
  · rw [if_pos h, if_pos (decide_eq_true h)]
    rfl
  · rw [if_neg h, if_neg (by simpa using h)]
theorem Ztr (ws : List (List Nat)) : Yc ws = pOne (fun t => decide (0 ≤ chz ws [t])) (fun t => chz ws [t]) := by
 funext l e
 cases l with
 | nil => rfl
 | cons t r =>
  have h1 : chz ws (t :: r) = chz ws [sT t] := rfl
  unfold Yc pOne
  dsimp only
  rw [h1]
  by_cases h : 0 ≤ chz ws [sT t]
  · rw [if_pos h, if_pos (decide_eq_true h)]
    rfl
  · rw [if_neg h, if_neg (by simpa using h)]
    rfl
theorem Zll (ws : List (List Nat)) : Zo ws = pOpt (fun t => decide (0 ≤ chz ws [t])) (fun t => (chz ws [t], true, ())) (0, false, ()) := by
 funext l e
 cases l with
 | nil => rfl
 | cons t r =>
  have h1 : chz ws (t :: r) = chz ws [sT t] := rfl
  unfold Zo pOpt
  dsimp only
  rw [h1]
  by_cases h : 0 ≤ chz ws [sT t]
  · rw [if_pos h, if_pos (decide_eq_true h)]
    rfl
  · rw [if_neg h, if_neg (by simpa using h)]
theorem Zts : Gd NoR pInt := by rw [Zyb]; exact Z01 _ _ _
theorem Zhf (ws : List (List Nat)) : Gd NoR (Yc ws) := by rw [Ztr]; exact Z01 _ _ _
theorem Zjl (ws : List (List Nat)) : Gd (fun a _ => a = (0, false, ())) (Zo ws) := by rw [Zll]; exact Ztq _ _ _
theorem Uu (t : Tok) (r : List Tok) (e : Int) : Vu (t :: r) e = if t.kind = 1 then (if t.text ∈ resW then .error (t.at_, 161) else .ok (t.text, r, e, ())) else .error (t.at_, 160) := rfl
theorem Ztt : Gd NoR Vu := by
 intro l e
 cases l with
 | nil =>
  refine ⟨fun y x hy => (by cases hy), fun er h => ?_⟩
  cases h
  refine .hd (l := []) (by simp) fun l' f hl => ?_
  have : l' = [] := Vj (m := 0) (by simpa using hl)
  subst this
  rfl
 | cons t r =>
  have sim : ∀ (l' : List Tok), l'.map sT = (t :: r).map sT → ∃ t' r', l' = t' :: r' ∧ t'.kind = t.kind ∧ t'.text = t.text := by
   intro l' hl
   cases l' with
   | nil => simp at hl
   | cons t' r' =>
    obtain ⟨g1, g2, _⟩ := Wc (List.cons.inj hl).1
    exact ⟨t', r', rfl, g1, g2⟩
  rw [Uu]
  split
  · rename_i hk
    split
    · rename_i hr
      refine ⟨fun y x hy => (by cases hy), fun er h => ?_⟩
      cases h
      refine .hd (l := t :: r) (by simp) fun l' f hl => ?_
      obtain ⟨t', r', rfl, g1, g2⟩ := sim l' hl
      rw [Uu, g1, g2, if_pos hk, if_pos hr]
      rfl
    · rename_i hr
      refine ⟨fun y x hy => ?_, fun er h => (by cases h)⟩
      cases hy
      refine ⟨1, rfl, by simp, fun l' m f hl => ?_⟩
      rcases Y1 hl with ⟨rfl, h3⟩ | ⟨t', r', t2, r2, m', rfl, h3, rfl, h4, h5⟩
      · have hm : m = 0 := by
         rcases h3 with h3 | h3
         · exact h3
         · cases h3
        subst hm
        exact ⟨fun h => by omega, fun _ => .inl rfl⟩
      · cases h3
        obtain ⟨g1, g2, _⟩ := Wc h4
        refine ⟨fun _ => ?_, fun h => by omega⟩
        rw [Uu, g1, g2, if_pos hk, if_neg hr]
        rfl
  · rename_i hk
    refine ⟨fun y x hy => (by cases hy), fun er h => ?_⟩
    cases h
    refine .hd (l := t :: r) (by simp) fun l' f hl => ?_
    obtain ⟨t', r', rfl, g1, g2⟩ := sim l' hl
    rw [Uu, g1, if_neg hk]
    rfl
theorem Z23 : Xh = pB (Zo WK.un.words) fun y => pIf sPer (pB (Yc WK.un.words) fun j => pR (decD (if y.2.1 then incD [0, 0, 0, 0] y.1 else [0, 0, 0, 0]) j)) (pR (if y.2.1 then incD [0, 0, 0, 0] y.1 else [0, 0, 0, 0])) := by
 funext l e
 unfold Xh pB pIf
 cases Zo WK.un.words l e with
 | error er => rfl
 | ok y =>
  dsimp only
  split
  · cases Yc WK.un.words y.2.1.tail y.2.2.1 with
    | error er => rfl
    | ok z => rfl
  · rfl
theorem Z24 : Gd AnyR Xh := by
 rw [Z23]
 refine gd_b (Zjl _) (fun y => Vt (gd_b (Zhf _) (fun j => gd_R _ _) (fun _ _ _ _ _ _ h => h.elim)) (gd_R _ _) fun l e y x _ f => .inr ⟨_, trivial, rfl⟩) ?_
 intro y y' l e z x _ _ f
 exact .inr ⟨_, trivial, rfl⟩
theorem Z25 (n : Int) : Wl n = pBc (Yc WK.at_.words) (fun _ => decide (n = 8)) 2 fun a => pIf sIs (pB pInt fun m => pR ⟨a, m, m⟩) (pIf sIn (pB pInt fun m => pIf Zbw (pB pInt fun k => pR ⟨a, m, k⟩) pSyn) pSyn) := by
 funext l e
 unfold Wl pBc pIf pB
 cases Yc WK.at_.words l e with
 | error er => rfl
 | ok y =>
  dsimp only
  by_cases hn : n = 8
  · rw [if_pos hn, if_pos (decide_eq_true hn)]
  · rw [if_neg hn, if_neg (show ¬ decide (n = 8) = true by simpa using hn)]
    split
    · cases pInt y.2.1.tail y.2.2.1 with
      | error er => rfl
      | ok z => rfl
    · split
      · cases pInt y.2.1.tail y.2.2.1 with
        | error er => rfl
        | ok z =>
         dsimp only
         split
         · cases pInt z.2.1.tail z.2.2.1 with
           | error er => rfl
           | ok u => rfl
         · rfl
      · rfl
theorem Z26 (n : Int) : Gd NoR (Wl n) := by
 rw [Z25]
 refine Zya (Zhf _) (fun a => ?_) (by simp) (fun _ _ h => h.elim) (fun _ _ _ _ _ _ h => h.elim)
 refine Vt (gd_b Zts (fun m => gd_R _ _) (fun _ _ _ _ _ _ h => h.elim)) (Vt (gd_b Zts (fun m => ?_) (fun _ _ _ _ _ _ h => h.elim)) (Vq _) fun _ _ _ _ _ f => .inl rfl) fun _ _ _ _ _ f => .inl rfl
 exact Vt (gd_b Zts (fun k => gd_R _ _) (fun _ _ _ _ _ _ h => h.elim)) (Vq _) fun _ _ _ _ _ f => .inl rfl
theorem Z8r (k : Nat) (ts : List Tst) : pTs (k + 1) true ts = pB (Wl ts.length) fun t => pIf [97, 110, 100] (pTs k true (ts ++ [t])) (pTs k false (ts ++ [t])) := by
 funext l e
 unfold pB pIf
 rw [pTs, if_pos rfl]
 cases Wl ts.length l e with
 | error er => rfl
 | ok y =>
  dsimp only
  cases isW [97, 110, 100] y.2.1 <;> rfl
theorem Z27 (k : Nat) (ts : List Tst) : pTs k false ts = pR ts := by
 funext l e
 exact Zhs k ts l e
theorem Z28 : ∀ (k : Nat) (more : Bool) (ts : List Tst), Gd AnyR (pTs k more ts)
 | 0, more, ts => gd_R _ ts
 | k + 1, false, ts => by rw [Z27]; exact gd_R _ _
 | k + 1, true, ts => by
  rw [Z8r]
  refine gd_b (Z26 _) (fun t => Vt (Z28 k true _) (Z28 k false _) fun _ _ _ _ _ f => .inr ⟨ts ++ [t], trivial, by rw [Z27]; rfl⟩) (fun _ _ _ _ _ _ h => h.elim)
theorem Z58 (pe : PE) (s : List Nat) (r : List (List Nat)) (acc : List Ex) : pOpL pe (s :: r) acc = pB pe fun x => pIf s (pOpL pe r (acc ++ [x])) pSyn := by
 funext l e
 rw [pOpL]
 unfold pB pIf pSyn
 cases pe l e with
 | error er => rfl
 | ok y => rfl
theorem Z02 {pe : PE} (h : Gd NeR pe) : ∀ (ss : List (List Nat)) (acc : List Ex), Gd NoR (pOpL pe ss acc)
 | [], acc => gd_R _ acc
 | s :: r, acc => by
  rw [Z58]
  exact gd_b h (fun x => Vt (Z02 h r _) (Vq _) fun _ _ _ _ _ f => .inl rfl) fun _ _ _ _ _ _ _ _ f => .inl rfl
theorem Z59 (pe : PE) (op : Int) (ss : List (List Nat)) : pOps pe op ss = pIf Y7 (pB (pOpL pe ss []) fun xs => pR (.mk op 0 0 0 0 0 xs)) pSyn := by
 funext l e
 unfold pOps pIf pB pSyn
 split
 · cases pOpL pe ss [] l.tail e with
   | error er => rfl
   | ok y => rfl
 · rfl
theorem Z03 {pe : PE} (h : Gd NeR pe) (op : Int) (ss : List (List Nat)) : Gd NoR (pOps pe op ss) := by
 rw [Z59]
 exact Vt (gd_b (Z02 h ss []) (fun xs => gd_R _ _) (fun _ _ _ _ _ _ h => h.elim)) (Vq _) fun _ _ _ _ _ f => .inl rfl
theorem Z29 (pe : PE) : Uh pe = pIf Y7 (pB pe fun x => pIf Zx (pR x) pSyn) (pIf sIf (pOps pe 11 [Zbp, Z2, Z2, Zx]) (pB (Zo WK.ca.words) fun k => if k.2.1 then pOps pe (6 + k.1) [Z2, Zx] else pB (Yc WK.at_.words) fun a => pR (.mk 2 a 0 0 0 0 []))) := by
 funext l e
 unfold Uh pIf pB pSyn
 split
 · cases pe l.tail e with
   | error er => rfl
   | ok y => rfl
 · split
   · rfl
   · cases Zo WK.ca.words l e with
     | error er => rfl
     | ok y =>
      dsimp only
      cases y.1.2.1 with
      | true => rfl
      | false =>
       rw [if_neg Bool.false_ne_true, if_neg Bool.false_ne_true]
       cases Yc WK.at_.words y.2.1 y.2.2.1 with
       | error er => rfl
       | ok z => rfl
theorem Z3a {pe : PE} (h : Gd NeR pe) : Gd NoR (Uh pe) := by
 rw [Z29]
 refine Vt (gd_b h (fun x => Vt (gd_R _ _) (Vq _) fun _ _ _ _ _ f => .inl rfl) fun _ _ _ _ _ _ _ _ f => .inl rfl) (Vt (Z03 h _ _) (gd_b (Zjl _) (fun k => ?_) ?_) fun _ _ _ _ _ f => .inl rfl) fun _ _ _ _ _ f => .inl rfl
 · split
   · exact Z03 h _ _
   · exact gd_b (Zhf _) (fun a => gd_R _ _) (fun _ _ _ _ _ _ h => h.elim)
 · rintro y y' l e z x rfl _ f
   exact .inl rfl
theorem Z6a {pe : PE} (h : Gd NeR pe) : Gd NeR (pFac pe) := by
 have h2 := (Z3a h).mono (rel' := NeR) fun _ _ h => h.elim
 intro l e
 cases l with
 | nil =>
  obtain ⟨g1, g2⟩ := h2 [] e
  refine ⟨fun y x hy => ?_, fun er h => ?_⟩
  rotate_left
  · obtain ⟨j, c0, h3, h4, h5⟩ := g2 er h
    refine ⟨j, c0, h3, h4, fun l' f hl => ?_⟩
    have e1 : l' = [] := Vj (m := 0) (by simpa using hl)
    subst e1
    exact h5 [] f rfl
  obtain ⟨k, hx, hk, ho⟩ := g1 y x hy
  refine ⟨k, hx, hk, fun l' m f hl => ?_⟩
  have e1 : l' = [] := Vj hl
  have := ho l' m f hl
  subst e1
  exact this
 | cons t r =>
  have key : ∀ (t : Tok) (r : List Tok) (e : Int), pFac pe (t :: r) e = if t.kind = 2 then pB Xh (fun d => pR (.mk 1 t.n (d.getD 0 0) (d.getD 1 0) (d.getD 2 0) (d.getD 3 0) [])) r e else Uh pe (t :: r) e := by
   intro t r e
   show (if t.kind = 2 then _ else _) = _
   split
   · unfold pB
     cases Xh r e with
     | error er => rfl
     | ok y => rfl
   · rfl
  rw [key]
  by_cases hk : t.kind = 2
  · rw [if_pos hk]
    have hg : Gd NeR (pB Xh fun d => pR (.mk 1 t.n (d.getD 0 0) (d.getD 1 0) (d.getD 2 0) (d.getD 3 0) [])) := by
     refine gd_b Z24 (fun d => gd_R _ _) ?_
     intro y y' l e z x _ hz f
     unfold pR at hz
     cases hz
     exact .inr ⟨.mk 1 t.n (y'.getD 0 0) (y'.getD 1 0) (y'.getD 2 0) (y'.getD 3 0) [], by show Zw _ ≤ Zw _; simp [Zw], rfl⟩
    refine ⟨fun y x hy => ?_, fun er h => ?_⟩
    rotate_left
    · obtain ⟨j, c0, h3, h4, h5⟩ := (hg r e).2 er h
      refine ⟨j + 1, c0, h3, h4, fun l' f hl => ?_⟩
      cases l' with
      | nil => simp at hl
      | cons t' r' =>
       obtain ⟨g1, _, g3⟩ := Wc (List.cons.inj hl).1
       rw [key, g1, g3, if_pos hk]
       exact h5 r' f (List.cons.inj hl).2
    obtain ⟨k, rfl, h1, h2⟩ := (hg r e).1 y x hy
    refine ⟨k + 1, rfl, by simpa using h1, fun l' m f hl => ?_⟩
    rcases Y1 hl with ⟨rfl, h3⟩ | ⟨t', r', t2, r2, m', rfl, h3, rfl, h4, h5⟩
    · have hm : m = 0 := by
       rcases h3 with h3 | h3
       · exact h3
       · cases h3
      subst hm
      exact ⟨fun h => by omega, fun _ => .inl rfl⟩
    · cases h3
      obtain ⟨g1, _, g3⟩ := Wc h4
      rw [key, g1, g3, if_pos hk]
      exact ⟨fun hm => (h2 r' m' f h5).1 (by omega), fun hm => (h2 r' m' f h5).2 (by omega)⟩
  · rw [if_neg hk]
    obtain ⟨g1, g2⟩ := h2 (t :: r) e
    refine ⟨fun y x hy => ?_, fun er h => ?_⟩
    rotate_left
    · obtain ⟨j, c0, h3, h4, h5⟩ := g2 er h
      refine ⟨j, c0, h3, h4, fun l' f hl => ?_⟩
      cases l' with
      | nil => simp at hl
      | cons t' r' =>
       obtain ⟨q1, _, _⟩ := Wc (List.cons.inj hl).1
       rw [key, q1, if_neg hk]
       exact h5 _ f hl
    obtain ⟨k, hx, hk', ho⟩ := g1 y x hy
    refine ⟨k, hx, hk', fun l' m f hl => ?_⟩
    have := ho l' m f hl
    rcases Y1 hl with ⟨rfl, h3⟩ | ⟨t', r', t2, r2, m', rfl, h3, rfl, h4, h5⟩
    · exact this
    · cases h3
      obtain ⟨q1, _, _⟩ := Wc h4
      rw [key, q1, if_neg hk]
      exact this
theorem Zyc : pOp op1 = pOpt (fun t => isW sMul [t]) (fun _ => 5) 0 := by
 funext l e
 cases l with
 | nil => rfl
 | cons t r =>
  unfold pOp pOpt op1
  dsimp only
  rw [show isW sMul (t :: r) = isW sMul [sT t] from rfl]
  split <;> rfl
theorem Zyd : pOp op2 = pOpt (fun t => isW Zae [t] || isW W3 [t]) (fun t => if isW Zae [t] then 3 else 4) 0 := by
 funext l e
 cases l with
 | nil => rfl
 | cons t r =>
  unfold pOp pOpt op2
  dsimp only
  rw [show isW Zae (t :: r) = isW Zae [sT t] from rfl, show isW W3 (t :: r) = isW W3 [sT t] from rfl]
  by_cases h1 : isW Zae [sT t] = true
  · simp [h1]
  · by_cases h2 : isW W3 [sT t] = true
    · simp [h1, h2]
    · simp [h1, h2]
theorem Z6b : Gd (fun a _ => a = 0) (pOp op1) := by rw [Zyc]; exact Ztq _ _ _
theorem Z6c : Gd (fun a _ => a = 0) (pOp op2) := by rw [Zyd]; exact Ztq _ _ _
theorem Z6d (op : Int) (x y : Ex) : Zw (.mk op 0 0 0 0 0 [x, y]) = max (Zw x) (Zw y) + 1 := by simp [Zw, Zcr]
theorem Ztu (o : List Tok → Int × List Tok) (pf : PE) (k : Nat) (x : Ex) (op : Int) : Ys o pf (k + 1) x op = if op = 0 then pR x else pB pf fun y => pB (pOp o) fun op' => Ys o pf k (.mk op 0 0 0 0 0 [x, y]) op' := by
 funext l e
 rw [Ys]
 split
 · rfl
 · unfold pB pOp
   cases pf l e with
   | error er => rfl
   | ok y => rfl
theorem Zhg (o : List Tok → Int × List Tok) (pf : PE) (k : Nat) (x : Ex) : Ys o pf k x 0 = pR x := by
 cases k with
 | zero => rfl
 | succ k => rw [Ztu, if_pos rfl]
theorem Ua {o : List Tok → Int × List Tok} {pf : PE} : ∀ {k : Nat} {x : Ex} {op : Int} {l : List Tok} {e : Int} {z : Ex} {y : PX}, Ys o pf k x op l e = .ok (z, y) → Zw x ≤ Zw z
 | 0, x, op, l, e, z, y, h => by
  unfold Ys at h
  cases h
  exact Nat.le_refl _
 | k + 1, x, op, l, e, z, y, h => by
  unfold Ys at h
  split at h
  · cases h
    exact Nat.le_refl _
  · split at h
    · cases h
    · have := Ua h
      rw [Z6d] at this
      omega
theorem b_ok {α β : Type} {p : PP α} {q : α → PP β} {l : List Tok} {e : Int} {z : β × PX} (h : pB p q l e = .ok z) : ∃ y x, p l e = .ok (y, x) ∧ q y x.1 x.2.1 = .ok z := by
 unfold pB at h
 split at h
 · cases h
 · exact ⟨_, _, by assumption, h⟩
theorem Ztv {o : List Tok → Int × List Tok} (ho : Gd (fun a _ => a = 0) (pOp o)) (ho0 : o [] = (0, [])) {pf : PE} (h : Gd NeR pf) : ∀ (k : Nat) (x : Ex) (op : Int), Gd NeR (Ys o pf k x op)
 | 0, x, op => gd_R _ x
 | k + 1, x, op => by
  rw [Ztu]
  split
  · exact gd_R _ _
  · refine gd_b h (fun y => gd_b ho (fun op' => Ztv ho ho0 h k _ op') ?_) ?_
    · rintro op1 op2 l e z x2 rfl hz f
      rw [Zhg]
      exact .inr ⟨_, Ua hz, rfl⟩
    · intro y y' l e z x2 hy hz f
      obtain ⟨op', x3, _, hz⟩ := b_ok hz
      have h1 := Ua hz
      refine .inr ⟨.mk op 0 0 0 0 0 [x, y'], ?_, ?_⟩
      · have hy : Zw y' ≤ Zw y := hy
        show Zw _ ≤ Zw z
        rw [Z6d] at h1 ⊢
        omega
      · unfold pB pOp
        rw [ho0]
        dsimp only
        rw [Zhg]
        rfl
def pChN (o : List Tok → Int × List Tok) (pf : PE) (N : Nat) : PE := pB pf fun y => pB (pOp o) fun op => Ys o pf N y op
theorem Z6e {o : List Tok → Int × List Tok} (ho : Gd (fun a _ => a = 0) (pOp o)) (ho0 : o [] = (0, [])) {pf : PE} (h : Gd NeR pf) (N : Nat) : Gd NeR (pChN o pf N) := by
 unfold pChN
 refine gd_b h (fun y => gd_b ho (fun op => Ztv ho ho0 h N y op) ?_) ?_
 · rintro op1 op2 l e z x2 rfl hz f
   rw [Zhg]
   exact .inr ⟨_, Ua hz, rfl⟩
 · intro y y' l e z x2 hy hz f
   obtain ⟨op', x3, _, hz⟩ := b_ok hz
   have h1 := Ua hz
   refine .inr ⟨y', Nat.le_trans hy h1, ?_⟩
   unfold pB pOp
   rw [ho0]
   dsimp only
   rw [Zhg]
   rfl
theorem Z8s {o : List Tok → Int × List Tok} (ho : ∀ l, (o l).2.length ≤ l.length) {pf : PE} (hp : Shr pf) {N : Nat} {l : List Tok} (hl : l.length < N) (e : Int) : pCh o pf l e = pChN o pf N l e := by
 unfold pCh pChN pB pOp
 cases hq : pf l e with
 | error er => rfl
 | ok y =>
  have h1 := hp _ _ _ _ hq
  have h2 := ho y.2.1
  exact Zcc ho hp _ _ _ _ _ _ (by omega) (by omega)
theorem Z3b {β : Type} {rel : β → β → Prop} {p : PP β} (q : Nat → PP β) (hq : ∀ N, Gd rel (q N)) (h : ∀ N l e, l.length < N → p l e = q N l e) : Gd rel p := by
 intro l e
 have h1 := h (l.length + 1) l e (Nat.lt_succ_self _)
 rw [h1]
 refine ⟨fun y x hy => ?_, fun er h' => ?_⟩
 rotate_left
 · obtain ⟨j, c0, h3, h4, h5⟩ := (hq _ l e).2 er h'
   refine ⟨j, c0, h3, h4, fun l' f hl => ?_⟩
   have hlen := congrArg List.length hl
   rw [List.length_map, List.length_map] at hlen
   rw [h (l.length + 1) l' f (by omega)]
   exact h5 l' f hl
 obtain ⟨k, hx, hk, ho⟩ := (hq _ l e).1 y x hy
 refine ⟨k, hx, hk, fun l' m f hl => ?_⟩
 have hlen : l'.length ≤ l.length := by
  have := congrArg List.length hl
  rw [List.length_map, List.length_take, List.length_map] at this
  omega
 rw [h (l.length + 1) l' f (by omega)]
 exact ho l' m f hl
theorem Z6f {o : List Tok → Int × List Tok} (hle : ∀ l, (o l).2.length ≤ l.length) (ho : Gd (fun a _ => a = 0) (pOp o)) (ho0 : o [] = (0, [])) {pf : PE} (hp : Shr pf) (h : Gd NeR pf) : Gd NeR (pCh o pf) :=
 Z3b (pChN o pf) (Z6e ho ho0 h) fun N l e hl => Z8s hle hp hl e
theorem gd_E : ∀ n, Gd NeR (pE n)
 | 0 => Vq _
 | n + 1 => by
  unfold pE
  exact Z6f Zo3 Z6c rfl (Zac Zbx (Wm (Vp n))).shr (Z6f Zo2 Z6b rfl (Zif (Vp n)) (Z6a (gd_E n)))
theorem gd_X : Gd NeR pX := Z3b pE gd_E fun N l e hl => (Z1o N l e hl).symm
theorem Z6g (nm : List Nat) (ts : List Tst) : pPay nm ts = pIf [112, 97, 121] (pBc pX (fun x => decide (24 < Zw x)) 2 fun x => pIf [59] (pR ⟨nm, ts, x⟩) pSyn) pSyn := by
 funext l e
 unfold pPay pIf pBc pSyn
 split
 · cases pX l.tail e with
   | error er => rfl
   | ok y =>
    dsimp only
    by_cases h : 24 < Zw y.1
    · rw [if_pos h, if_pos (decide_eq_true h)]
    · rw [if_neg h, if_neg (show ¬ decide (24 < Zw y.1) = true by simpa using h)]
      rfl
 · rfl
theorem Z04 (nm : List Nat) (ts : List Tst) : Gd NoR (pPay nm ts) := by
 rw [Z6g]
 refine Vt (Zya gd_X (fun x => Vt (gd_R _ _) (Vq _) fun _ _ _ _ _ f => .inl rfl) (by simp) ?_ fun _ _ _ _ _ _ _ _ f => .inl rfl) (Vq _) fun _ _ _ _ _ f => .inl rfl
 intro y y' h hc
 have h : Zw y' ≤ Zw y := h
 rw [decide_eq_false_iff_not] at hc ⊢
 omega
theorem Ztw (bs : List Cls) : Z6 bs = pBc Vu (fun nm => bs.any fun b => b.name == nm) 161 fun nm => pIf [119, 104, 101, 110] (pB (pTs 10 true []) fun ts => pPay nm ts) (pPay nm []) := by
 funext l e
 unfold Z6 pBc pIf pB
 cases Vu l e with
 | error er => rfl
 | ok y =>
  dsimp only
  by_cases hb : (bs.any fun b => b.name == y.1) = true
  · rw [if_pos hb, if_pos hb]
  · rw [if_neg hb, if_neg hb]
    by_cases hw : isW [119, 104, 101, 110] y.2.1 = true
    · rw [if_pos hw, if_pos hw, hw]
      unfold pAft
      cases pTs 10 true [] y.2.1.tail y.2.2.1 with
      | error er => rfl
      | ok z => rfl
    · rw [if_neg hw, if_neg hw]
      rw [Bool.not_eq_true] at hw
      rw [hw, Z27]
      rfl
theorem Ztx (nm : List Nat) (ts : List Tst) (f : Int) : pPay nm ts [] f = .error (f, 160) := rfl
theorem Zty (bs : List Cls) : Gd NoR (Z6 bs) := by
 rw [Ztw]
 refine Zya Ztt (fun nm => Vt (gd_b (Z28 _ _ _) (fun ts => Z04 _ _) fun _ _ _ _ _ _ _ _ f => .inl (Ztx _ _ _)) (Z04 _ _) fun _ _ _ _ _ f => .inl (Ztx _ _ _)) (by simp) (fun _ _ h => h.elim) (fun _ _ _ _ _ _ h => h.elim)
theorem Z6h (k : Nat) (cs : List Cls) (h : cs.length ≠ 64) : pCls (k + 1) cs = pIf [99, 108, 97, 117, 115, 101] (pB (Z6 cs) fun c => pCls k (cs ++ [c])) (pR cs) := by
 funext l e
 rw [pCls]
 unfold pIf pB
 split
 · cases Z6 cs l.tail e with
   | error er => rfl
   | ok y => rfl
 · rfl
theorem Z05 : ∀ (k : Nat) (cs : List Cls), Gd AnyR (pCls k cs)
 | 0, cs => gd_R _ cs
 | k + 1, cs => by
  by_cases h : cs.length = 64
  · intro l e
    rw [pCls, if_pos h]
    cases hw : isW [99, 108, 97, 117, 115, 101] l with
    | true =>
     rw [if_pos rfl]
     refine ⟨fun y x h => (by cases h), fun er h' => ?_⟩
     cases h'
     refine .hd (by simp) fun l' f hl => ?_
     have : isW [99, 108, 97, 117, 115, 101] l' = true := by
      cases l' with
      | nil =>
       cases l with
       | nil => cases hw
       | cons t r => simp at hl
      | cons t' r' =>
       cases l with
       | nil => simp at hl
       | cons t r =>
        rw [Zjk (r := r) (List.cons.inj hl).1]
        exact hw
     rw [pCls, if_pos h, this, if_pos rfl]
    | false =>
     rw [if_neg Bool.false_ne_true]
     refine ⟨fun y x hy => ?_, fun er h => (by cases h)⟩
     cases hy
     refine ⟨0, rfl, Nat.zero_le _, fun l' m f hl => ⟨fun _ => ?_, fun h => by omega⟩⟩
     have : isW [99, 108, 97, 117, 115, 101] l' = false := by
      rcases Y1 hl with ⟨rfl, _⟩ | ⟨t', r', t, r, m', rfl, rfl, rfl, h4, h5⟩
      · rfl
      · rw [Zjk (r := r) h4]
        exact hw
     rw [pCls, this, if_neg Bool.false_ne_true]
     rfl
  · rw [Z6h k cs h]
    refine Vt (gd_b (Zty cs) (fun c => Z05 k _) (fun _ _ _ _ _ _ h => h.elim)) (gd_R _ _) fun _ _ _ _ _ f => .inr ⟨cs, trivial, rfl⟩
theorem Zjm : ∀ (k k' : Nat) (cs : List Cls) (l : List Tok) (e : Int), l.length < k → l.length < k' → pCls k cs l e = pCls k' cs l e
 | 0, _, _, _, _, h, _ => by omega
 | _ + 1, 0, _, _, _, _, h => by omega
 | k + 1, k' + 1, cs, l, e, h, h' => by
  unfold pCls
  split
  · rename_i hw
    split
    · rfl
    · have h1 := Zr hw
      cases hq : Z6 cs l.tail e with
      | error er => rfl
      | ok y =>
       have h2 := Zay hq
       exact Zjm k k' _ _ _ (by omega) (by omega)
  · rfl
def pEof (t : Tar) : PP Tar := fun l e => if 0 < l.length then .error (hdT e l, 160) else .ok (t, l, e, ())
theorem Z6i (t : Tar) : Gd NoR (pEof t) := by
 intro l e
 unfold pEof
 split
 · rename_i h0
   refine ⟨fun y x h => (by cases h), fun er h => ?_⟩
   cases h
   refine .hd (by simp) fun l' f hl => ?_
   have hlen := congrArg List.length hl
   rw [List.length_map, List.length_map] at hlen
   show (if 0 < l'.length then _ else _) = _
   rw [if_pos (by omega)]
 · rename_i hl
   have : l = [] := List.eq_nil_of_length_eq_zero (by omega)
   subst this
   refine ⟨fun y x hy => ?_, fun er h => (by cases h)⟩
   cases hy
   refine ⟨0, rfl, Nat.zero_le _, fun l' m f hl => ⟨fun _ => ?_, fun h => by omega⟩⟩
   have : l' = [] := Vj hl
   subst this
   rfl
def Ztz (N : Nat) : PP Tar := pIf [116, 97, 114, 105, 102, 102] (pB Vu fun nm => pIf [102, 111, 114] (pB (Yc WK.ki.words) fun k => pIf [123] (pB (pCls N []) fun cs => pIf [125] (pEof ⟨nm, wr .i64 (1 + k), cs⟩) pSyn) pSyn) pSyn) pSyn
theorem Z3c (N : Nat) : Gd NoR (Ztz N) := by
 unfold Ztz
 refine Vt (gd_b Ztt (fun nm => Vt (gd_b (Zhf _) (fun k => Vt (gd_b (Z05 _ _) (fun cs => Vt (Z6i _) (Vq _) fun _ _ _ _ _ f => .inl rfl) ?_) (Vq _) fun _ _ _ _ _ f => .inl rfl) (fun _ _ _ _ _ _ h => h.elim)) (Vq _) fun _ _ _ _ _ f => .inl rfl) (fun _ _ _ _ _ _ h => h.elim)) (Vq _) fun _ _ _ _ _ f => .inl rfl
 exact fun _ _ _ _ _ _ _ _ f => .inl rfl
theorem Z06 (N : Nat) (l : List Tok) (e : Int) (h : l.length < N) : pTar l e = Ztz N l e := by
 unfold pTar Ztz pIf pB pSyn
 split
 · rename_i hw
   have h1 := Zr hw
   cases hn : Vu l.tail e with
   | error er => rfl
   | ok y =>
    have h2 := Zbj hn
    dsimp only
    split
    · rename_i hw2
      have h3 := Zr hw2
      cases hm : Yc WK.ki.words y.2.1.tail y.2.2.1 with
      | error er => rfl
      | ok z =>
       obtain ⟨_, _, hz⟩ := U3 hm
       have h4 : z.2.1.length ≤ y.2.1.tail.length := by
        rw [hz]
        show y.2.1.tail.tail.length ≤ _
        rw [List.length_tail (l := y.2.1.tail)]
        omega
       dsimp only
       split
       · rename_i hw3
         have h5 := Zr hw3
         rw [Zjm (z.2.1.tail.length + 1) N [] z.2.1.tail z.2.2.1 (by omega) (by omega)]
         cases pCls N [] z.2.1.tail z.2.2.1 with
         | error er => rfl
         | ok u => rfl
       · rfl
    · rfl
 · rfl
theorem Z6j : Gd NoR pTar := Z3b Ztz Z3c Z06
end
section
open Go
section
variable {α β : Type}
end
theorem Ziv (s : List (List Nat)) (c : Cls) (r : List Cls) : CsOk s (c :: r) = (Wh c = true ∧ resF c.name = false ∧ c.name ∉ s ∧ c.when_.length ≤ 8 ∧ Zw c.pay ≤ 24 ∧ CsOk (c.name :: s) r) := rfl
end
section
open Go
def En {β : Type} (p : PP β) : Prop := ∀ l e y x, p l e = .ok (y, x) → x.1 = []
theorem Zn1 {β : Type} : En (pSyn : PP β) := fun l e y x h => by cases h
theorem en_b {α β : Type} {p : PP α} {q : α → PP β} (hq : ∀ y, En (q y)) : En (pB p q) := fun l e y x h => by
 obtain ⟨y1, x1, _, h2⟩ := b_ok h
 exact hq y1 _ _ _ _ h2
theorem Zxx {β : Type} {s : List Nat} {A B : PP β} (hA : En A) (hB : En B) : En (pIf s A B) := fun l e y x h => by
 unfold pIf at h
 split at h
 · exact hA _ _ _ _ h
 · exact hB _ _ _ _ h
theorem Z5t (t : Tar) : En (pEof t) := fun l e y x h => by
 unfold pEof at h
 split at h
 · cases h
 · rename_i hl
   cases h
   exact List.eq_nil_of_length_eq_zero (Nat.le_zero.1 (Nat.le_of_not_lt hl))
theorem Z5u : En pTar := fun l e y x h => by
 rw [Z06 _ l e (Nat.lt_succ_self _)] at h
 exact Zxx (en_b fun nm => Zxx (en_b fun k => Zxx (en_b fun cs => Zxx (Z5t _) Zn1) Zn1) Zn1) Zn1 l e y x h
theorem Z2s {l : List Tok} {e : Int} {t : Tar} {x : PX} (h : pTar l e = .ok (t, x)) : (∀ l' f, l'.map sT = l.map sT → pTar l' f = .ok (t, [], f, ())) ∧ ∀ l' m f, m < l.length → l'.map sT = (l.map sT).take m → pTar l' f = .error (f, 160) := by
 have hn := Z5u l e t x h
 obtain ⟨k, rfl, hk, ho⟩ := (Z6j l e).1 t x h
 have hk2 : l.length ≤ k := by
  have := congrArg List.length hn
  rw [List.length_drop] at this
  simp at this
  omega
 have hk3 : k = l.length := by omega
 subst hk3
 refine ⟨fun l' f hl => ?_, fun l' m f hm hl => ?_⟩
 · have hlen := congrArg List.length hl
   rw [List.length_map, List.length_map] at hlen
   rw [(ho l' l.length f (Zbi hl)).1 (Nat.le_refl _), List.drop_eq_nil_of_le (by omega)]
 · rcases (ho l' m f hl).2 hm with h | ⟨y', h, _⟩
   · exact h
   · exact h.elim
def AllW (ws : List (List Nat)) : Prop := ∀ w ∈ ws, TokW w
theorem Wo {a b : List (List Nat)} (h1 : AllW a) (h2 : AllW b) : AllW (a ++ b) := fun w hw => (List.mem_append.1 hw).elim (h1 w) (h2 w)
theorem Ze {w : List Nat} {b : List (List Nat)} (h1 : TokW w) (h2 : AllW b) : AllW (w :: b) := fun x hx => (List.mem_cons.1 hx).elim (fun e => e ▸ h1) (h2 x)
theorem Z4 : AllW [] := fun w hw => by cases hw
theorem tw {w : List Nat} (h1 : (tokP w).2 = 0) (h2 : (tokP w).1.text = w) (h3 : w ≠ []) : TokW w := ⟨h1, h2, h3⟩
theorem Zlc : TokW Y7 := tw rfl rfl (by decide)
theorem Zg9 : TokW Zx := tw rfl rfl (by decide)
theorem Zha : TokW Z2 := tw rfl rfl (by decide)
theorem Z2t : TokW Zbp := tw rfl rfl (by decide)
theorem Z2u : TokW Zeo := tw rfl rfl (by decide)
theorem Z2v : TokW Zae := tw rfl rfl (by decide)
theorem Zxy : TokW W3 := tw rfl rfl (by decide)
theorem Z5v : TokW sMul := tw rfl rfl (by decide)
theorem Z2w : TokW Zbw := tw rfl rfl (by decide)
theorem Z8k : TokW sLb := tw rfl rfl (by decide)
theorem Z8l : TokW sRb := tw rfl rfl (by decide)
theorem Z8m : TokW sIf := tw rfl rfl (by decide)
theorem Z0z : TokW sPer := tw rfl rfl (by decide)
theorem Z8n : TokW sIs := tw rfl rfl (by decide)
theorem Z8o : TokW sIn := tw rfl rfl (by decide)
theorem Z5w : TokW sPay := tw rfl rfl (by decide)
theorem Z5x : TokW sFor := tw rfl rfl (by decide)
theorem Zta : TokW Zep := tw rfl rfl (by decide)
theorem Ztb : TokW Xp := tw rfl rfl (by decide)
theorem Z2x : TokW Ze9 := tw rfl rfl (by decide)
theorem Z5y : TokW sAnd := tw rfl rfl (by decide)
theorem Zjg {k : WK} {i : Nat} (h : i < k.words.length) : TokW (k.words.getD i []) := Zeh (Zhv h)
theorem Z5z {a b c d : Int} (h : Zaf [a, b, c, d] = true) : AllW (txU [a, b, c, d]) := by
 rcases unF h with ⟨_, h2⟩ | ⟨i, hi, _, h2⟩ | ⟨j, hj, _, h2⟩ | ⟨i, hi, j, hj, _, h2⟩
 · rw [h2]; exact Z4
 · rw [h2]; exact Ze (Zjg (k := .un) hi) Z4
 · rw [h2]; exact Ze Z0z (Ze (Zjg (k := .un) hj) Z4)
 · rw [h2]; exact Ze (Zjg (k := .un) hi) (Ze Z0z (Ze (Zjg (k := .un) hj) Z4))
theorem Zn2 {op least : Int} {t : List (List Nat)} (h : AllW t) : AllW (par op least t) := by
 unfold par
 split
 · exact h
 · exact Ze Zlc (Wo h (Ze Zg9 Z4))
theorem Ztc : ∀ {ts : List (List (List Nat))} {ss : List (List Nat)}, (∀ t ∈ ts, AllW t) → AllW ss → AllW (txS ts ss)
 | [], _, _, _ => by unfold txS; exact Z4
 | t :: r, [], _, _ => by unfold txS; exact Z4
 | t :: r, s :: ss, h1, h2 => by
  unfold txS
  exact Wo (h1 t (by simp)) (Ze (h2 s (by simp)) (Ztc (fun t ht => h1 t (by simp [ht])) fun w hw => h2 w (by simp [hw])))
theorem Ztd : ∀ {l : List Ex} {t : List (List Nat)}, t ∈ txL l → ∃ x ∈ l, t = txX x
 | [], t, h => by cases h
 | x :: r, t, h => by
  unfold txL at h
  rcases List.mem_cons.1 h with rfl | h
  · exact ⟨x, by simp, rfl⟩
  · obtain ⟨y, hy, e⟩ := Ztd h
    exact ⟨y, by simp [hy], e⟩
theorem Z50 : ∀ (x : Ex), Yd x = true → AllW (txX x) := by
 suffices H : ∀ (m : Nat) (x : Ex), x.sz ≤ m → Yd x = true → AllW (txX x) from fun x => H _ x (Nat.le_refl _)
 intro m
 induction m with
 | zero => intro x h; have := x.sz_pos; omega
 | succ m ih =>
  intro x hm hf
  rw [Zcy, Bool.and_eq_true] at hf
  obtain ⟨hh, hl⟩ := hf
  have hkid : ∀ y ∈ x.l, AllW (txX y) := fun y hy => ih y (by have := Ex.sz_mem hy; omega) (formL_iff.1 hl y hy)
  obtain ⟨op, n, a, b, c, d, l⟩ := x
  simp only [Ex.op, Ex.n, Ex.u, Ex.d0, Ex.d1, Ex.d2, Ex.d3, Ex.l] at hh hkid
  obtain ⟨h1, h2, h3, h4, h5, h6, h7⟩ := Zcd hh
  have hts : ∀ t ∈ txL l, AllW t := by
   intro t ht
   obtain ⟨x, hx, rfl⟩ := Ztd ht
   exact hkid x hx
  have hget : ∀ i, AllW ((txL l).getD i []) := by
   intro i
   by_cases hi : i < (txL l).length
   · have : (txL l).getD i [] = (txL l)[i] := by simp [List.getD, hi]
     rw [this]
     exact hts _ (List.getElem_mem hi)
   · have : (txL l).getD i [] = [] := by simp [List.getD, hi]
     rw [this]
     exact Z4
  rw [txX]
  unfold txN
  split
  · rename_i q
    subst q
    exact Ze (Zc8 h3 h4) (Z5z h6)
  · split
    · rename_i q
      subst q
      have : n ≤ 15 := h4
      exact Ze (Zjg (k := .at_) (show n.toNat < 16 by omega)) Z4
    · split
      · exact Ze Z8m (Ze Zlc (Ztc hts (Ze Z2t (Ze Zha (Ze Zha (Ze Zg9 Z4))))))
      · split
        · refine Wo (Zn2 (hget 0)) (Ze ?_ (Zn2 (hget 1)))
          unfold sgnO
          split
          · exact Z2v
          · split
            · exact Zxy
            · exact Z5v
        · exact Ze (Zjg (k := .ca) (show (op - 6).toNat < 5 by omega)) (Ze Zlc (Ztc hts (Ze Zha (Ze Zg9 Z4))))
theorem Z51 {w : Tst} (h : Z9 w = true) : AllW (txW w) := by
 obtain ⟨a0, a1, l0, l1, h0, h1⟩ := Ug h
 unfold txW
 refine Ze (Zjg (k := .at_) (show w.attr.toNat < 16 by omega)) ?_
 split
 · exact Ze Z8n (Ze (Zc8 l0 l1) Z4)
 · exact Ze Z8o (Ze (Zc8 l0 l1) (Ze Z2w (Ze (Zc8 h0 h1) Z4)))
theorem Zte : ∀ {ws : List Tst} (i : Nat), (∀ w ∈ ws, Z9 w = true) → AllW (txTs i ws)
 | [], _, _ => Z4
 | w :: r, i, h => by
  rw [Zef]
  refine Ze ?_ (Wo (Z51 (h w (by simp))) (Zte _ fun w hw => h w (by simp [hw])))
  split
  · exact Z2x
  · exact Z5y
theorem Z52 {c : Cls} (h : Wh c = true) : AllW (txC c) := by
 obtain ⟨k1, k2, k3⟩ := Zav h
 exact Ze Ztb (Ze (Zeh k1) (Wo (Zte _ k3) (Ze Z5w (Wo (Z50 _ k2) (Ze Z2u Z4)))))
theorem Ztf : ∀ {cs : List Cls} {s : List (List Nat)}, CsOk s cs → AllW (txCs cs)
 | [], _, _ => Z4
 | c :: r, s, h => by
  rw [Ziv] at h
  rw [Zeg]
  exact Wo (Z52 h.1) (Ztf h.2.2.2.2.2)
theorem Zn3 {t : Tar} (h : Y3 t = 0) : AllW (Uj t) := by
 obtain ⟨h1, h2, h3, h4, h5, h6⟩ := (Zau t).1 h
 exact Ze Zta (Ze (Zeh h1) (Ze Z5x (Ze (Zjg (k := .ki) (show (t.for_ - 1).toNat < 6 by omega)) (Ze Z8k (Wo (Ztf h6) (Ze Z8l Z4))))))
theorem Z8p (ws : List (List Nat)) : (TS ws).map sT = TS ws := by
 rw [List.map_map]
 rfl
theorem Zxz {s : List Nat} {l : List Tok} (h : Lx s 0 l) (hs : s.length ≤ 2000) : Ws s = outT (pTar l s.length) := by
 unfold Ws
 rw [Zvh h hs, if_neg (by simp)]
theorem Zld {s : List Nat} {l : List Tok} (h : Lx s 0 l) (hs : s.length ≤ 2000) {l0 : List Tok} {e : Int} {t : Tar} {x : PX} (ht : pTar l0 e = .ok (t, x)) (hl : l.map sT = l0.map sT) : Ws s = (t, 0, 0) := by
 rw [Zxz h hs, (Z2s ht).1 l s.length hl]
 rfl
theorem Zle {t : Tar} (h : Y3 t = 0) (hs : (Y2 (Uj t)).length ≤ 2000) : Ws (Y2 (Uj t)) = (t, 0, 0) := by
 refine Zld (Zvi 0 (Zn3 h)) hs (Zy5 h 0) ?_
 rw [Z1h, Z8p]
theorem Zfx {t : Tar} (h : Y3 t ≠ 0) : Wq t = ([], Y3 t) := by
 unfold Wq
 rw [if_pos h]
theorem Z53 {t : Tar} (h : (Wq t).2 = 0) : Y3 t = 0 ∧ (Y2 (Uj t)).length ≤ 2000 ∧ Wq t = (Y2 (Uj t), 0) := by
 unfold Wq at h ⊢
 split at h
 · rename_i hc
   exact absurd h hc
 · rename_i hc
   split at h
   · cases h
   · rename_i hl
     rw [if_neg hc, if_neg hl]
     exact ⟨by simpa using hc, by omega, rfl⟩
theorem Zlf {t : Tar} (h : Y3 t = 0) : ((Wq t).2 = 0 ∧ (Y2 (Uj t)).length ≤ 2000 ∧ (Wq t).1 = Y2 (Uj t)) ∨ (Wq t = ([], 2)) := by
 unfold Wq
 rw [if_neg (by simpa using h)]
 split
 · exact .inr rfl
 · rename_i hl
   exact .inl ⟨rfl, by omega, rfl⟩
end
section
open Go
structure PcX where
 k : Nat
 r : Nat
 L : List (List Nat)
 fz : Nat
def cOfP (h : Hp thy) (v : SV thy) : Nat := match h (bOf v) with | some (.raw (.sl c _ _ _ _ :: _) _ _) => c | _ => 0
noncomputable def Apc : Fr thy → Hp thy → Nat → Ann thy := fun T h i => { X := PcX, fr := fun x => [(0, T 0), (3, T 3), (12, T 12), (13, T 13), (14, .int false .i64 x.k)], bl := fun x => (bOf (T 0), .raw [.sl i 0 x.L.length 1 none] 0 none) :: (i, .rows Th.strs x.L x.fz) :: blkP h (T 3), src := fun x => [(i, 1000)], md := [bOf (T 0), cOfP h (T 0)], ih := i + 1, M := i + 60, meas := fun x => x.r }
noncomputable def Fpc : Fns thy := addL (addS Fpu 79 (Sxp 1000000000)) 43 3 Apc E
def clA (c : Cls) : SV thy := .agg (encF false .clauses c)
abbrev qCLv (a0 : Cls) := (Cls.pay a0)
abbrev qCLl (a0 : Cls) := (Cls.when_ a0 = Cls.when_ a0 ∧ (false = true → false = true))
abbrev qCL1 (a0 : Cls) := (Cls.name a0 = Cls.name a0 ∧ (qCLl a0) ∧ Ex.op (qCLv a0) = Ex.op (qCLv a0) ∧ Ex.n (qCLv a0) = Ex.n (qCLv a0) ∧ Ex.d0 (qCLv a0) = Ex.d0 (qCLv a0) ∧ Ex.d1 (qCLv a0) = Ex.d1 (qCLv a0) ∧ Ex.d2 (qCLv a0) = Ex.d2 (qCLv a0) ∧ Ex.d3 (qCLv a0) = Ex.d3 (qCLv a0) ∧ (Ex.l (qCLv a0) = Ex.l (qCLv a0) ∧ (false = true → false = true)) ∧ True)
abbrev qCLe (a0 : Cls) := (↑(List.length (Cls.when_ a0)) : Int)
abbrev qCLj := (0 : Nat)
abbrev qCLr := (1 : Int)
abbrev qCLh (a0 : PcX) := (↑(PcX.k a0) : Int)
abbrev qCL2 (a0 : Cls) (b0 : PcX) (c0 : PcX) := (qCLj = qCLj ∧ qCLj = qCLj ∧ (qCLl a0) ∧ (qCLe a0) = (qCLe a0) ∧ wr IntKind.i64 ((qCLh b0) + qCLr) = (qCLh c0) ∧ True)
abbrev qCLu (a0 : PcX) := (List.length (PcX.L a0))
abbrev qCL3 (a0 : PcX) (b0 : List Nat) := (List.take (qCLu a0) (PcX.L a0) ++ [[(119 : Nat), (104 : Nat), (101 : Nat), (110 : Nat)], b0])
abbrev qCL4 (a0 : PcX) (b0 : List Nat) := (List.take (qCLu a0) (PcX.L a0) ++ [[(97 : Nat), (110 : Nat), (100 : Nat)], b0])
abbrev qCL5 := (1 : Nat)
abbrev qCL6 (a0 : Cls) := (Ex.mk (Ex.op (qCLv a0)) (Ex.n (qCLv a0)) (Ex.d0 (qCLv a0)) (Ex.d1 (qCLv a0)) (Ex.d2 (qCLv a0)) (Ex.d3 (qCLv a0)) (Ex.l (qCLv a0)))
abbrev qCLc := (2 : Nat)
abbrev qCL7 (a0 : PcX) := (List.length (PcX.L a0) + qCLc + qCL5)
abbrev qCL8 (a0 : PcX) := (List.length (PcX.L a0) + qCLc)
abbrev qCL9 := (140737488355328 : Nat)
abbrev qCLa (a0 : PcX) := (List.length (PcX.L a0) + qCLc + qCL5 + qCL5)
abbrev qCLb (a0 : PcX) := (List.take (qCLu a0) (PcX.L a0) ++ [[(112 : Nat), (97 : Nat), (121 : Nat)]])
abbrev qCLd (a0 : Tst) := ((0 : Int) ≤ Tst.low a0 ∧ Tst.low a0 + qCLr ≤ (10000000000000 : Int))
abbrev qCLf (a0 : PcX) (b0 : List Nat) := (List.take (qCL8 a0) (qCL3 a0 b0) ++ [[(105 : Nat), (110 : Nat)]])
abbrev qCLg (a0 : PcX) (b0 : List Nat) := (List.take (qCL8 a0) (qCL4 a0 b0) ++ [[(105 : Nat), (110 : Nat)]])
abbrev qCLi (a0 : PcX) := (List.length (PcX.L a0) + qCLc + qCL5 + qCL5 + qCL5)
abbrev qCLk := (16 : Nat)
abbrev qCLm (a0 : PcX) := (some (List.take (qCLu a0) (PcX.L a0) ++ [[(112 : Nat), (97 : Nat), (121 : Nat)]], PcX.fz a0))
abbrev qCLn (a0 : PcX) := (List.length (PcX.L a0) ≤ List.length (PcX.L a0) ∧ PcX.fz a0 ≤ List.length (PcX.L a0) ∧ (qCL8 a0) * qCLk ≤ qCL9)
abbrev qCLo (a0 : PcX) (b0 : PcX) := ((qCLj = qCLj ∧ List.length (PcX.L a0) + qCLc + qCL5 + qCL5 + qCL5 + qCL5 = List.length (PcX.L b0) ∧ True) ∧ True)
abbrev qCLp (a0 : PcX) (b0 : List Nat) := (List.length (PcX.L a0) + qCLc ≤ List.length (qCL3 a0 b0) ∧ PcX.fz a0 ≤ List.length (PcX.L a0) + qCLc ∧ (qCL7 a0) * qCLk ≤ qCL9)
abbrev qCLq (a0 : PcX) (b0 : List Nat) := (List.length (PcX.L a0) + qCLc ≤ List.length (qCL4 a0 b0) ∧ PcX.fz a0 ≤ List.length (PcX.L a0) + qCLc ∧ (qCL7 a0) * qCLk ≤ qCL9)
abbrev qCLs (a0 : PcX) (b0 : PcX) := ((qCLj = qCLj ∧ List.length (PcX.L a0) + qCLc + qCL5 + qCL5 = List.length (PcX.L b0) ∧ True) ∧ True)
abbrev qCLt (a0 : Tst) := ((0 : Int) ≤ Tst.high a0 ∧ Tst.high a0 + qCLr ≤ (10000000000000 : Int))
theorem Zw1 (l : List (List Nat)) (fz : Nat) (c : Cls) (l' : List (List Nat))  : Zk E Fpc (vc E Fpc 400) 43 [.ptr 0 0, clA c] (hpP E Th.strs (some (l, fz))) 2 (prnK E Th.strs (some (l, fz)) l') = (
 (List.length l ≤ List.length l ∧ fz ≤ List.length l ∧ (List.length l + qCLc) * qCLk ≤ qCL9) ∧ ∃ (R : PcX → Prop), (∃ (x : PcX), R x ∧ true = true ∧ (qCLj = qCLj ∧ qCLj = qCLj ∧ (qCLl c) ∧ (qCLe c) = (qCLe c) ∧ (0 : Int) = (qCLh x) ∧ True) ∧ ((qCLj = qCLj ∧ List.length l + qCLc = List.length (PcX.L x) ∧ True) ∧ True) ∧ (List.take (List.length l) l ++ [[(99 : Nat), (108 : Nat), (97 : Nat), (117 : Nat), (115 : Nat), (101 : Nat)], Cls.name c] = PcX.L x ∧ fz = PcX.fz x) ∧ (qCL1 c) ∧ True) ∧ ∀ (x : PcX), R x → (decide ((qCLh x) < (qCLe c)) = true → (0 : Int) ≤ (qCLh x) ∧ (qCLh x) + qCLr ≤ (qCLe c) ∧ ∀ (x_1 : Tst), (Cls.when_ c)[Int.toNat (qCLh x)]? = some x_1 → (0 : Int) ≤ mm2 false (qCLh x) qCLr ∧ mm2 false (qCLh x) qCLr + qCLr ≤ (↑qCLc : Int) ∧ ((mm2 false (qCLh x) qCLr == (↑qCLj : Int)) = true → (0 : Int) ≤ Tst.attr x_1 ∧ Tst.attr x_1 + qCLr ≤ (↑(List.length (WK.words WK.at_)) : Int) ∧ ∀ (x_2 : List Nat), (WK.words WK.at_)[Int.toNat (Tst.attr x_1)]? = some x_2 → (qCLn x) ∧ ((Tst.low x_1 == Tst.high x_1) = true → (qCLp x x_2) ∧ (qCLd x_1) ∧ ∀ (y : List Nat), y = decN (Tst.low x_1) → (List.length (PcX.L x) + qCLc + qCL5 ≤ List.length (List.take (qCL8 x) (qCL3 x x_2) ++ [[(105 : Nat), (115 : Nat)]]) ∧ PcX.fz x ≤ List.length (PcX.L x) + qCLc + qCL5 ∧ (qCLa x) * qCLk ≤ qCL9) ∧ ∃ (x_3 : PcX), R x_3 ∧ x_3.2 + qCL5 ≤ x.2 ∧ true = true ∧ (qCL2 c x x_3) ∧ (qCLs x x_3) ∧ (List.take (qCL7 x) (List.take (qCL8 x) (qCL3 x x_2) ++ [[(105 : Nat), (115 : Nat)]]) ++ [y] = PcX.L x_3 ∧ PcX.fz x = PcX.fz x_3) ∧ (qCL1 c) ∧ True) ∧ ((Tst.low x_1 == Tst.high x_1) = false → (qCLp x x_2) ∧ (qCLd x_1) ∧ ∀ (y : List Nat), y = decN (Tst.low x_1) → (List.length (PcX.L x) + qCLc + qCL5 ≤ List.length (qCLf x x_2) ∧ PcX.fz x ≤ List.length (PcX.L x) + qCLc + qCL5 ∧ (qCLa x) * qCLk ≤ qCL9) ∧ (List.length (PcX.L x) + qCLc + qCL5 + qCL5 ≤ List.length (List.take (qCL7 x) (qCLf x x_2) ++ [y]) ∧ PcX.fz x ≤ List.length (PcX.L x) + qCLc + qCL5 + qCL5 ∧ (qCLi x) * qCLk ≤ qCL9) ∧ (qCLt x_1) ∧ ∀ (y_1 : List Nat), y_1 = decN (Tst.high x_1) → (List.length (PcX.L x) + qCLc + qCL5 + qCL5 + qCL5 ≤ List.length (List.take (qCLa x) (List.take (qCL7 x) (qCLf x x_2) ++ [y]) ++ [[(46 : Nat), (46 : Nat)]]) ∧ PcX.fz x ≤ List.length (PcX.L x) + qCLc + qCL5 + qCL5 + qCL5 ∧ (List.length (PcX.L x) + qCLc + qCL5 + qCL5 + qCL5 + qCL5) * qCLk ≤ qCL9) ∧ ∃ (x_3 : PcX), R x_3 ∧ x_3.2 + qCL5 ≤ x.2 ∧ true = true ∧ (qCL2 c x x_3) ∧ (qCLo x x_3) ∧ (List.take (qCLi x) (List.take (qCLa x) (List.take (qCL7 x) (qCLf x x_2) ++ [y]) ++ [[(46 : Nat), (46 : Nat)]]) ++ [y_1] = PcX.L x_3 ∧ PcX.fz x = PcX.fz x_3) ∧ (qCL1 c) ∧ True)) ∧ ((mm2 false (qCLh x) qCLr == (↑qCLj : Int)) = false → ((mm2 false (qCLh x) qCLr == (↑(qCLj + qCL5) : Int)) = true → (0 : Int) ≤ Tst.attr x_1 ∧ Tst.attr x_1 + qCLr ≤ (↑(List.length (WK.words WK.at_)) : Int) ∧ ∀ (x_2 : List Nat), (WK.words WK.at_)[Int.toNat (Tst.attr x_1)]? = some x_2 → (qCLn x) ∧ ((Tst.low x_1 == Tst.high x_1) = true → (qCLq x x_2) ∧ (qCLd x_1) ∧ ∀ (y : List Nat), y = decN (Tst.low x_1) → (List.length (PcX.L x) + qCLc + qCL5 ≤ List.length (List.take (qCL8 x) (qCL4 x x_2) ++ [[(105 : Nat), (115 : Nat)]]) ∧ PcX.fz x ≤ List.length (PcX.L x) + qCLc + qCL5 ∧ (qCLa x) * qCLk ≤ qCL9) ∧ ∃ (x_3 : PcX), R x_3 ∧ x_3.2 + qCL5 ≤ x.2 ∧ true = true ∧ (qCL2 c x x_3) ∧ (qCLs x x_3) ∧ (List.take (qCL7 x) (List.take (qCL8 x) (qCL4 x x_2) ++ [[(105 : Nat), (115 : Nat)]]) ++ [y] = PcX.L x_3 ∧ PcX.fz x = PcX.fz x_3) ∧ (qCL1 c) ∧ True) ∧ ((Tst.low x_1 == Tst.high x_1) = false → (qCLq x x_2) ∧ (qCLd x_1) ∧ ∀ (y : List Nat), y = decN (Tst.low x_1) → (List.length (PcX.L x) + qCLc + qCL5 ≤ List.length (qCLg x x_2) ∧ PcX.fz x ≤ List.length (PcX.L x) + qCLc + qCL5 ∧ (qCLa x) * qCLk ≤ qCL9) ∧ (List.length (PcX.L x) + qCLc + qCL5 + qCL5 ≤ List.length (List.take (qCL7 x) (qCLg x x_2) ++ [y]) ∧ PcX.fz x ≤ List.length (PcX.L x) + qCLc + qCL5 + qCL5 ∧ (qCLi x) * qCLk ≤ qCL9) ∧ (qCLt x_1) ∧ ∀ (y_1 : List Nat), y_1 = decN (Tst.high x_1) → (List.length (PcX.L x) + qCLc + qCL5 + qCL5 + qCL5 ≤
List.length (List.take (qCLa x) (List.take (qCL7 x) (qCLg x x_2) ++ [y]) ++ [[(46 : Nat), (46 : Nat)]]) ∧ PcX.fz x ≤ List.length (PcX.L x) + qCLc + qCL5 + qCL5 + qCL5 ∧ (List.length (PcX.L x) + qCLc + qCL5 + qCL5 + qCL5 + qCL5) * qCLk ≤ qCL9) ∧ ∃ (x_3 : PcX), R x_3 ∧ x_3.2 + qCL5 ≤ x.2 ∧ true = true ∧ (qCL2 c x x_3) ∧ (qCLo x x_3) ∧ (List.take (qCLi x) (List.take (qCLa x) (List.take (qCL7 x) (qCLg x x_2) ++ [y]) ++ [[(46 : Nat), (46 : Nat)]]) ++ [y_1] = PcX.L x_3 ∧ PcX.fz x = PcX.fz x_3) ∧ (qCL1 c) ∧ True)) ∧ ((mm2 false (qCLh x) qCLr == (↑(qCLj + qCL5) : Int)) = false → True))) ∧ (decide ((qCLh x) < (qCLe c)) = false → (List.length (PcX.L x) ≤ List.length (PcX.L x) ∧ PcX.fz x ≤ List.length (PcX.L x) ∧ (List.length (PcX.L x) + qCL5) * qCLk ≤ qCL9) ∧ (List.length (PcX.L x) + qCL5 = List.length (qCLb x) ∧ PcX.fz x ≤ List.length (qCLb x) ∧ Ex.sz (qCL6 c) + qCL5 ≤ (1000000000 : Nat) ∧ Yd (qCL6 c) = true ∧ qCL5 ≤ List.length (qCLb x) ∧ List.length (qCLb x) + (8 : Nat) * Ex.sz (qCL6 c) + (8 : Nat) ≤ (1000000000 : Nat)) ∧ ∀ (l'_1 : List (List Nat)), l'_1 = List.take (qCLu x) (PcX.L x) ++ [[(112 : Nat), (97 : Nat), (121 : Nat)]] ++ txX (qCL6 c) → (List.length l'_1 ≤ List.length l'_1 ∧ fzO (qCLm x) ≤ List.length l'_1 ∧ (List.length l'_1 + qCL5) * qCLk ≤ qCL9) ∧ List.take (List.length l'_1) l'_1 ++ [[(59 : Nat)]] = l' ∧ List.length l'_1 + qCL5 = List.length l' ∧ fzO (qCLm x) = fzO (some (l, fz)))) := by kernel_rfl
theorem Zku : ∀ (a : List Tst) (i : Nat) (w : Tst), txTs i (a ++ [w]) = txTs i a ++ ((if a.length + i = 0 then Ze9 else sAnd) :: txW w)
 | [], i, w => by simp [txTs]
 | x :: r, i, w => by
  rw [List.cons_append]
  simp only [txTs]
  rw [Zku r (i + 1) w]
  have e : (r.length + (i + 1) = 0) = ((x :: r).length + i = 0) := by simp
  simp only [e, List.append_assoc, List.cons_append]
theorem Z43 (w : Tst) : (txW w).length ≤ 5 := by
 unfold txW
 split <;> simp
theorem Zii : ∀ (l : List Tst) (i : Nat), (txTs i l).length ≤ 6 * l.length
 | [], _ => by simp [txTs]
 | w :: r, i => by
  have := Zii r (i + 1)
  have := Z43 w
  simp [txTs]
  omega
def PclP (l : List (List Nat)) (c : Cls) : Prop := Wh c = true ∧ c.pay.sz < 1000000000 ∧ 1 ≤ l.length ∧ l.length + 8 * c.pay.sz + 6 * c.when_.length + 20 ≤ 1000000000
theorem Z74 : FnsOk E Fpc := Zv E_ok (Zb Zoz (Zv5 (Znn 1000000000))) _ _ _
theorem Z44 (c : Cls) (l : List (List Nat)) (fz : Nat) (hf : fz ≤ l.length) (h : PclP l c) : PrnC E 43 Th.strs [clA c] (some (l, fz)) (l ++ txC c) := by
 refine Zv2 Z74 (n := 400) rfl ?_
 rw [Zw1]; delta qCLv qCLl qCL1 qCLe qCLj qCLr qCLh qCL2 qCLu qCL3 qCL4 qCL5 qCL6 qCLc qCL7 qCL8 qCL9 qCLa qCLb qCLd qCLf qCLg qCLi qCLk qCLm qCLn qCLo qCLp qCLq qCLs qCLt
 obtain ⟨h1, h2, h3, h4⟩ := h
 obtain ⟨-, g2, g3⟩ := Zav h1
 have L : WK.at_.words.length = 16 := rfl
 simp only [fzO, List.take_length, Ex.eta, forall_eq, beq_iff_eq, beq_eq_false_iff_ne, ne_eq, and_true, true_and, imp_self, decide_eq_true_eq, decide_eq_false_iff_not]
 refine ⟨⟨Nat.le_refl _, hf, by omega⟩, fun x => x.k ≤ c.when_.length ∧ x.fz = fz ∧ x.L = l ++ [Xp, c.name] ++ txTs 0 (c.when_.take x.k) ∧ x.r = c.when_.length - x.k, ⟨⟨0, c.when_.length, l ++ [Xp, c.name], fz⟩, ⟨by dsimp only; omega, rfl, by simp [txTs], rfl⟩, by simp, by simp, by simp [Xp]⟩, ?_⟩
 rintro ⟨k, r, Lx, fx⟩ ⟨k1, k2, k3, k4⟩
 simp only at k1 k2 k3 k4 ⊢
 subst k2 k4
 have tl := Zii (c.when_.take k) 0
 have tl2 : (c.when_.take k).length ≤ c.when_.length := by simp; omega
 have hL : Lx.length = l.length + 2 + (txTs 0 (c.when_.take k)).length := by rw [k3]; simp; omega
 refine And.intro (fun hq => ⟨by omega, by omega, fun w hw => ?_⟩) (fun hq => ?_)
 · have hw : c.when_[k]? = some w := hw
   have hq : k < c.when_.length := by omega
   obtain ⟨t1, t2, t3, t4, t5, t6⟩ := Ug (g3 w (List.mem_of_getElem? hw))
   have ek : c.when_.take (k + 1) = c.when_.take k ++ [w] := by rw [List.take_add_one, hw]; rfl
   have tw : (c.when_.take k).length = k := by simp; omega
   have hm : (0 : Int) ≤ mm2 false (↑k : Int) (1 : Int) ∧ mm2 false (↑k : Int) (1 : Int) + 1 ≤ 2 := by
    rw [Yn]; omega
   have st : txTs 0 (c.when_.take (k + 1)) = txTs 0 (c.when_.take k) ++ ((if k = 0 then Ze9 else sAnd) :: txW w) := by rw [ek, Zku, tw, Nat.add_zero]
   have wx : ∀ x2, WK.at_.words[w.attr.toNat]? = some x2 → txW w = x2 :: (if w.low = w.high then [sIs, decN w.low] else [sIn, decN w.low, Zbw, decN w.high]) := by
    intro x2 h
    unfold txW
    rw [List.getD_eq_getElem?_getD, h]
    rfl
   have E1 : ∀ s x2, (if k = 0 then Ze9 else sAnd) = s → WK.at_.words[w.attr.toNat]? = some x2 → w.low = w.high → Lx ++ [s, x2] ++ [[105, 115]] ++ [decN w.low] = l ++ [Xp, c.name] ++ txTs 0 (c.when_.take (k + 1)) := by
    intro s x2 hs h e
    rw [k3, st, hs, wx x2 h, if_pos e]
    simp [sIs]
   have E2 : ∀ s x2, (if k = 0 then Ze9 else sAnd) = s → WK.at_.words[w.attr.toNat]? = some x2 → ¬ w.low = w.high → Lx ++ [s, x2] ++ [[105, 110]] ++ [decN w.low] ++ [[46, 46]] ++ [decN w.high] = l ++ [Xp, c.name] ++ txTs 0 (c.when_.take (k + 1)) := by
    intro s x2 hs h e
    rw [k3, st, hs, wx x2 h, if_neg e]
    simp [sIn, Zbw]
   have T1 : ∀ a b, List.take (Lx.length + 2) (Lx ++ [a, b]) = Lx ++ [a, b] := fun a b => List.take_of_length_le (by simp)
   have T2 : ∀ a b c, List.take (Lx.length + 2 + 1) (Lx ++ [a, b] ++ [c]) = Lx ++ [a, b] ++ [c] := fun a b c => List.take_of_length_le (by simp)
   have T3 : ∀ a b c d, List.take (Lx.length + 2 + 1 + 1) (Lx ++ [a, b] ++ [c] ++ [d]) = Lx ++ [a, b] ++ [c] ++ [d] := fun a b c d => List.take_of_length_le (by simp)
   have T4 : ∀ a b c d e, List.take (Lx.length + 2 + 1 + 1 + 1) (Lx ++ [a, b] ++ [c] ++ [d] ++ [e]) = Lx ++ [a, b] ++ [c] ++ [d] ++ [e] := fun a b c d e => List.take_of_length_le (by simp)
   have wk : wr IntKind.i64 ((k : Int) + 1) = ((k + 1 : Nat) : Int) := (wr64 (by omega) (by omega)).trans (by omega)
   simp only [T1, T2, T3, T4]
   have m0 : (mm2 false (k : Int) 1 = ((0 : Nat) : Int)) = (k = 0) := by rw [Yn]; exact propext (by omega)
   have go : ∀ s x2, (if k = 0 then Ze9 else sAnd) = s → WK.at_.words[w.attr.toNat]? = some x2 →
    (w.low = w.high → ∃ x_3 : PcX, (x_3.k ≤ c.when_.length ∧ x_3.fz = fx ∧ x_3.L = l ++ [Xp, c.name] ++ txTs 0 (List.take x_3.k c.when_) ∧ x_3.r = c.when_.length - x_3.k) ∧ x_3.r + 1 ≤ c.when_.length - k ∧ wr IntKind.i64 ((k : Int) + 1) = (x_3.k : Int) ∧ Lx.length + 2 + 1 + 1 = x_3.L.length ∧ Lx ++ [s, x2] ++ [[105, 115]] ++ [decN w.low] = x_3.L ∧ fx = x_3.fz) ∧
    (¬ w.low = w.high → ∃ x_3 : PcX, (x_3.k ≤ c.when_.length ∧ x_3.fz = fx ∧ x_3.L = l ++ [Xp, c.name] ++ txTs 0 (List.take x_3.k c.when_) ∧ x_3.r = c.when_.length - x_3.k) ∧ x_3.r + 1 ≤ c.when_.length - k ∧ wr IntKind.i64 ((k : Int) + 1) = (x_3.k : Int) ∧ Lx.length + 2 + 1 + 1 + 1 + 1 = x_3.L.length ∧ Lx ++ [s, x2] ++ [[105, 110]] ++ [decN w.low] ++ [[46, 46]] ++ [decN w.high] = x_3.L ∧ fx = x_3.fz) := by
    intro s x2 hs h
    refine And.intro (fun e => ?_) (fun e => ?_)
    · have := E1 s x2 hs h e
      have h2 := congrArg List.length this
      refine ⟨⟨k + 1, c.when_.length - (k + 1), l ++ [Xp, c.name] ++ txTs 0 (c.when_.take (k + 1)), fx⟩, ⟨hq, rfl, rfl, rfl⟩, (by dsimp only; omega), wk, ?_, this, rfl⟩
      dsimp only
      rw [← h2]
      simp
    · have := E2 s x2 hs h e
      have h2 := congrArg List.length this
      refine ⟨⟨k + 1, c.when_.length - (k + 1), l ++ [Xp, c.name] ++ txTs 0 (c.when_.take (k + 1)), fx⟩, ⟨hq, rfl, rfl, rfl⟩, (by dsimp only; omega), wk, ?_, this, rfl⟩
      dsimp only
      rw [← h2]
      simp
   rw [m0]
   refine ⟨hm.1, hm.2, fun h0 => ⟨t1, by rw [L]; omega, fun x2 hx2 => ?_⟩, fun h0 => ⟨fun h1 => ⟨t1, by rw [L]; omega, fun x2 hx2 => ?_⟩, fun _ => trivial⟩⟩
   · obtain ⟨g1, g2⟩ := go [119, 104, 101, 110] x2 (by rw [if_pos h0]; rfl) hx2
     refine ⟨⟨Nat.le_refl _, by omega, by omega⟩, fun e => ?_, fun e => ?_⟩
     · exact ⟨⟨by simp, by omega, by omega⟩, ⟨t3, by omega⟩, ⟨by simp, by omega, by omega⟩, g1 e⟩
     · exact ⟨⟨by simp, by omega, by omega⟩, ⟨t3, by omega⟩, ⟨by simp, by omega, by omega⟩, ⟨by simp, by omega, by omega⟩, ⟨t5, by omega⟩, ⟨by simp, by omega, by omega⟩, g2 e⟩
   · obtain ⟨g1, g2⟩ := go [97, 110, 100] x2 (by rw [if_neg h0]; rfl) hx2
     refine ⟨⟨Nat.le_refl _, by omega, by omega⟩, fun e => ?_, fun e => ?_⟩
     · exact ⟨⟨by simp, by omega, by omega⟩, ⟨t3, by omega⟩, ⟨by simp, by omega, by omega⟩, g1 e⟩
     · exact ⟨⟨by simp, by omega, by omega⟩, ⟨t3, by omega⟩, ⟨by simp, by omega, by omega⟩, ⟨by simp, by omega, by omega⟩, ⟨t5, by omega⟩, ⟨by simp, by omega, by omega⟩, g2 e⟩
 · have ek : k = c.when_.length := by omega
   have tx := Yz c.pay
   have e1 : Lx ++ [[112, 97, 121]] ++ txX c.pay ++ [[59]] = l ++ txC c := by
    rw [k3, ek, List.take_length]
    unfold txC
    simp [sPay, Zeo]
   have e2 := congrArg List.length e1
   simp only [List.length_append, List.length_cons, List.length_nil] at e2 ⊢
   exact ⟨⟨Nat.le_refl _, by omega, by omega⟩, ⟨trivial, by omega, by omega, g2, by omega, by omega⟩, ⟨Nat.le_refl _, by omega, by omega⟩, e1, by omega, trivial⟩
end
section
open Go
noncomputable def dCl1 : DcL E (Cls × Unit) := .cons dCl .nil
noncomputable def Spc : Sum thy := sumB E Th.strs dCl1 (fun l x => PclP l x.1) fun (l : List (List Nat)) x => l ++ txC x.1
theorem Z45 : SumOk E 43 Spc := Zho E_ok (Zc rfl) fun x => ⟨fun l fz hf hp => Z44 x.1 l fz hf hp, fun hp => absurd hp.2.2.1 (by decide)⟩
noncomputable def Z76 : DcL E (List (List Nat) × List Nat × Unit) := .cons (Zpw (E := E) Th.strs : Dc E (List (thy.dom Th.strs))) (.cons dS .nil)
noncomputable def Z1x : Sum thy := Zj9 E (fun _ => none) 10 (Vo Z76 (fun x => (x.2.1 = [32] ∧ x.1.length ≤ 1000000000) ∧ (Y2 x.1).length ≤ 1000000000) (fun x => Y2 x.1) fun y => .str false y)
noncomputable def Apr : Fr thy → Hp thy → Nat → Ann thy := fun T h i => { X := PcX, fr := fun x => [(1, T 1), (5, T 5), (28, T 28), (29, T 29), (30, .int false .i64 x.k)], bl := fun x => (bOf (T 5), .raw [.sl i 0 x.L.length 1 none] 0 none) :: (i, .rows Th.strs x.L x.fz) :: blkP h (T 1), src := fun x => [(i, 1005)], md := [bOf (T 5), cOfP h (T 5)], ih := i + 1, M := i + 60, meas := fun x => x.r }
noncomputable def Fpr : Fns thy := addL (addS (addS (addS (addS F0 42 Zca) 44 Z1x) 17 Z1v) 43 Spc) 15 7 Apr E
abbrev qCM1 (a0 : Cls) := (Ex.mk (Ex.op (Cls.pay a0)) (Ex.n (Cls.pay a0)) (Ex.d0 (Cls.pay a0)) (Ex.d1 (Cls.pay a0)) (Ex.d2 (Cls.pay a0)) (Ex.d3 (Cls.pay a0)) (Ex.l (Cls.pay a0)))
abbrev qCM5 := (0 : Nat)
abbrev qCM2 (a0 : PcX) := (List.take (List.length (PcX.L a0) + (1 : Nat)) (List.drop qCM5 (List.take (List.length (PcX.L a0)) (PcX.L a0) ++ [[(125 : Nat)]])))
abbrev qCM3 (a0 : Tar) := (↑(List.length (Tar.clauses a0)) : Int)
abbrev qCM4 (a0 : Tar) := (Tar.clauses a0 = Tar.clauses a0 ∧ (false = true → false = true))
abbrev qCM6 (a0 : PcX) := (↑(PcX.k a0) : Int)
theorem Zpj (t : Tar) (s : List Nat) (e : Int) : Zk E Fpr (vc E Fpr 400) 15 [.agg (encF false .tariffs t)] hp0 0 (fun r => ret E (patch hp0 0 r) r.v (.tup [.str false s, .int false .i64 e])) = (
 ((∀ (c : Cls), c ∈ Tar.clauses t → Ex.sz (Cls.pay c) + (1 : Nat) ≤ (1000000000000 : Nat) ∧ List.length (Cls.when_ c) + (1 : Nat) ≤ (1000000000000 : Nat)) ∧ List.length (Tar.clauses t) + (1 : Nat) ≤ (1000000000000 : Nat)) ∧ ((Y3 t != (0 : Int)) = true → [] = s ∧ Y3 t = e ∧ True) ∧ ((Y3 t != (0 : Int)) = false → (0 : Int) ≤ wr IntKind.i64 (Tar.for_ t - (1 : Int)) ∧ wr IntKind.i64 (Tar.for_ t - (1 : Int)) + (1 : Int) ≤ (↑(List.length (WK.words WK.ki)) : Int) ∧ ∀ (x : List Nat), (WK.words WK.ki)[Int.toNat (wr IntKind.i64 (Tar.for_ t - (1 : Int)))]? = some x → ∃ (R : PcX → Prop), (∃ (x_1 : PcX), R x_1 ∧ true = true ∧ (qCM5 = qCM5 ∧ qCM5 = qCM5 ∧ (qCM4 t) ∧ (qCM3 t) = (qCM3 t) ∧ (0 : Int) = (qCM6 x_1) ∧ True) ∧ ((qCM5 = qCM5 ∧ (5 : Nat) = List.length (PcX.L x_1) ∧ True) ∧ True) ∧ ([[(116 : Nat), (97 : Nat), (114 : Nat), (105 : Nat), (102 : Nat), (102 : Nat)], Tar.name t, [(102 : Nat), (111 : Nat), (114 : Nat)], x, [(123 : Nat)]] = PcX.L x_1 ∧ qCM5 = PcX.fz x_1) ∧ (Tar.name t = Tar.name t ∧ Tar.for_ t = Tar.for_ t ∧ (qCM4 t) ∧ True) ∧ True) ∧ ∀ (x : PcX), R x → (decide ((qCM6 x) < (qCM3 t)) = true → (0 : Int) ≤ (qCM6 x) ∧ (qCM6 x) + (1 : Int) ≤ (qCM3 t) ∧ ∀ (x_1 : Cls), (Tar.clauses t)[Int.toNat (qCM6 x)]? = some x_1 → (List.length (PcX.L x) = List.length (PcX.L x) ∧ PcX.fz x ≤ List.length (PcX.L x) ∧ Wh (Cls.mk (Cls.name x_1) (Cls.when_ x_1) (qCM1 x_1)) = true ∧ Ex.sz (qCM1 x_1) + (1 : Nat) ≤ (1000000000 : Nat) ∧ (1 : Nat) ≤ List.length (PcX.L x) ∧ List.length (PcX.L x) + (8 : Nat) * Ex.sz (qCM1 x_1) + (6 : Nat) * List.length (Cls.when_ x_1) + (20 : Nat) ≤ (1000000000 : Nat)) ∧ ∀ (l' : List (List Nat)), l' = PcX.L x ++ txC (Cls.mk (Cls.name x_1) (Cls.when_ x_1) (qCM1 x_1)) → ∃ (x_2 : PcX), R x_2 ∧ x_2.2 + (1 : Nat) ≤ x.2 ∧ true = true ∧ (qCM5 = qCM5 ∧ qCM5 = qCM5 ∧ (qCM4 t) ∧ (qCM3 t) = (qCM3 t) ∧ wr IntKind.i64 ((qCM6 x) + (1 : Int)) = (qCM6 x_2) ∧ True) ∧ ((qCM5 = qCM5 ∧ List.length l' = List.length (PcX.L x_2) ∧ True) ∧ True) ∧ (l' = PcX.L x_2 ∧ fzO (some (PcX.L x, PcX.fz x)) = PcX.fz x_2) ∧ (Tar.name t = Tar.name t ∧ Tar.for_ t = Tar.for_ t ∧ (qCM4 t) ∧ True) ∧ True) ∧ (decide ((qCM6 x) < (qCM3 t)) = false → (List.length (PcX.L x) ≤ List.length (PcX.L x) ∧ PcX.fz x ≤ List.length (PcX.L x) ∧ (List.length (PcX.L x) + (1 : Nat)) * (16 : Nat) ≤ (140737488355328 : Nat)) ∧ qCM5 + (List.length (PcX.L x) + (1 : Nat)) ≤ List.length (List.take (List.length (PcX.L x)) (PcX.L x) ++ [[(125 : Nat)]]) ∧ (([(32 : Nat)] = [(32 : Nat)] ∧ List.length (qCM2 x) ≤ (1000000000 : Nat)) ∧ List.length (Y2 (qCM2 x)) ≤ (1000000000 : Nat)) ∧ ∀ (y : List Nat), y = Y2 (qCM2 x) → (decide ((↑(List.length y) : Int) > (2000 : Int)) = true → [] = s ∧ (2 : Int) = e ∧ True) ∧ (decide ((↑(List.length y) : Int) > (2000 : Int)) = false → y = s ∧ (0 : Int) = e ∧ True)))) := by kernel_rfl
theorem Zm8 : ∀ {s : List Nat} {n m : Int}, 1 ≤ n → n ≤ 1099511627776 → (∀ c ∈ s, isD c = true) → numL n s = (m, 0) → n * 10 ^ s.length ≤ 1099511627776
 | [], n, m, _, hn, _, _ => by simpa using hn
 | c :: r, n, m, h1, hn, hd, h => by
  unfold numL at h
  split at h
  · cases h
  · rename_i hq
    have hc := hd c (by simp)
    unfold isD at hc
    simp only [Bool.and_eq_true, decide_eq_true_eq] at hc
    have := Zm8 (by omega) (by omega) (fun c hc => hd c (by simp [hc])) h
    have hle : n * 10 ≤ 10 * n + ((c : Int) - 48) := by omega
    have hp : (0 : Int) ≤ 10 ^ r.length := Int.le_of_lt (Int.pow_pos (by decide))
    have h3 := Int.mul_le_mul_of_nonneg_right hle hp
    rw [List.length_cons, Int.pow_succ, Int.mul_comm (10 ^ r.length) 10, ← Int.mul_assoc]
    omega
theorem Zw2 {s : List Nat} (hd : ∀ c ∈ s, isD c = true) (h : (numb s).2 = 0) : s.length ≤ 32 := by
 match s, hd, h with
 | [], _, _ => simp
 | c :: r, hd, h =>
  unfold numb at h
  split at h
  · cases h
  · rename_i hq
    cases r with
    | nil => simp
    | cons d r =>
     have hc : c ≠ 48 := fun e => hq ⟨by simp, by rw [e]; rfl⟩
     have hcd := hd c (by simp)
     unfold isD at hcd
     simp only [Bool.and_eq_true, decide_eq_true_eq] at hcd
     unfold numL at h
     rw [if_neg (by omega)] at h
     have h2 : numL (10 * 0 + ((c : Int) - 48)) (d :: r) = ((numL (10 * 0 + ((c : Int) - 48)) (d :: r)).1, 0) := Prod.ext rfl h
     have := Zm8 (by omega) (by omega) (fun c hc => hd c (by simp [hc])) h2
     have hp : (0 : Int) ≤ 10 ^ (d :: r).length := Int.le_of_lt (Int.pow_pos (by decide))
     have h3 : 1 * (10 : Int) ^ (d :: r).length ≤ (10 * 0 + ((c : Int) - 48)) * 10 ^ (d :: r).length := Int.mul_le_mul_of_nonneg_right (by omega) hp
     rcases Nat.lt_or_ge (d :: r).length 13 with hl | hl
     · simp at hl ⊢; omega
     · have h4 : (10 : Nat) ^ 13 ≤ 10 ^ (d :: r).length := Nat.pow_le_pow_right (by decide) hl
       have h5 : ((10 ^ (d :: r).length : Nat) : Int) = (10 : Int) ^ (d :: r).length := by norm_cast
       have h6 : ((10 ^ 13 : Nat) : Int) ≤ ((10 ^ (d :: r).length : Nat) : Int) := Int.ofNat_le.2 h4
       rw [h5] at h6
       have h7 : ((10 ^ 13 : Nat) : Int) = 10000000000000 := rfl
       omega
theorem Z1y {c : Nat} {w : List Nat} (h : sgnW c = some w) : w.length ≤ 2 := by
 unfold sgnW at h
 repeat (split at h; · cases h; decide)
 cases h
theorem TokW.len {w : List Nat} (h : TokW w) : w.length ≤ 32 := by
 obtain ⟨h1, h2, h3⟩ := h
 obtain ⟨c, r, rfl⟩ := List.exists_cons_of_ne_nil h3
 rw [Yk] at h1 h2
 split at h1
 · rename_i hl
   rw [if_pos hl] at h2
   split at h1
   · cases h1
   · rename_i hq
     rw [if_neg hq] at h2
     have h2 := congrArg List.length h2
     rw [List.length_take] at h2
     omega
 · rename_i hl
   rw [if_neg hl] at h2
   split at h1
   · rename_i hd
     rw [if_pos hd] at h2
     have h2 : (c :: r).take (spn isD (c :: r)) = c :: r := h2
     have h1 : (numb ((c :: r).take (spn isD (c :: r)))).2 = 0 := h1
     rw [h2] at h1
     exact Zw2 (fun x hx => by rw [← h2] at hx; exact Zhh hx) h1
   · rename_i hd
     rw [if_neg hd] at h2
     split at h1
     · rename_i w hw
       rw [hw] at h2
       unfold tokS at h1 h2
       split at h1
       · rename_i hq
         dsimp only at h2
         rw [if_pos hq] at h2
         have h2 : w = c :: r := h2
         rw [← h2]
         have := Z1y hw
         omega
       · cases h1
     · cases h1
theorem Zij : ∀ {ws : List (List Nat)} {m : Nat}, (∀ w ∈ ws, w.length ≤ m) → (Y2 ws).length ≤ (m + 1) * ws.length
 | [], m, _ => by simp [Y2]
 | [w], m, h => by
  have := h w (by simp)
  simp only [Y2, List.length_cons, List.length_nil]
  omega
 | w :: x :: r, m, h => by
  have ih := Zij (ws := x :: r) (m := m) (fun y hy => h y (by simp at hy ⊢; exact .inr hy))
  have := h w (by simp)
  rw [Zf8 (by simp), List.length_append, List.length_cons]
  have e : (m + 1) * (w :: x :: r).length = (m + 1) * (x :: r).length + (m + 1) := by rw [List.length_cons, Nat.mul_add, Nat.mul_one]
  omega
theorem Z1z (c : Cls) : (txC c).length ≤ 8 * c.pay.sz + 6 * c.when_.length + 4 := by
 have h1 := Yz c.pay
 have h2 := Zii c.when_ 0
 unfold txC
 simp only [List.length_cons, List.length_append, List.length_nil]
 omega
theorem Zik : ∀ (a : List Cls) (c : Cls), txCs (a ++ [c]) = txCs a ++ txC c
 | [], c => by simp [txCs]
 | x :: r, c => by rw [List.cons_append]; simp only [txCs]; rw [Zik r c, List.append_assoc]
theorem Zm9 : ∀ {cs : List Cls} {m : Nat}, (∀ c ∈ cs, c.pay.sz ≤ m ∧ c.when_.length ≤ 8) → (txCs cs).length ≤ (8 * m + 52) * cs.length
 | [], m, _ => by simp [txCs]
 | c :: r, m, h => by
  have ih := Zm9 (cs := r) (m := m) (fun x hx => h x (by simp [hx]))
  have h1 := h c (by simp)
  have h2 := Z1z c
  have e : (8 * m + 52) * (c :: r).length = (8 * m + 52) * r.length + (8 * m + 52) := by rw [List.length_cons, Nat.mul_add, Nat.mul_one]
  rw [txCs, List.length_append]
  omega
theorem Zna : ∀ {cs : List Cls} {s : List (List Nat)}, CsOk s cs → ∀ c ∈ cs, Wh c = true ∧ c.when_.length ≤ 8
 | c :: r, s, h, x, hx => by
  rw [Ziv] at h
  rcases List.mem_cons.1 hx with rfl | hx
  · exact ⟨h.1, h.2.2.2.1⟩
  · exact Zna h.2.2.2.2.2 x hx
def SmT (t : Tar) : Prop := (∀ c ∈ t.clauses, c.pay.sz ≤ 10000 ∧ c.when_.length < 1000000000) ∧ t.clauses.length < 1000000000
theorem Znb : SumOk E 44 Z1x := Zei E_ok (Z3 E_ok (Zc rfl) fun x h => by
 have := Zjv x.1 h.1.2 h.2
 rw [← h.1.1] at this
 exact this)
theorem Z46 : FnsOk E Fpr := Zv E_ok (Zb (Zb (Zb (Zb F0_ok Zcb) Znb) Zwq) Z45) _ _ _
theorem Zpk (t : Tar) (h : SmT t) : PureC E 15 [.agg (encF false .tariffs t)] (.tup [.str false (Wq t).1, .int false .i64 (Wq t).2]) := by
 refine Za E_ok (Zg E_ok Z46 400) ?_
 rw [Zpj]; delta qCM1 qCM5 qCM2 qCM3 qCM4 qCM6
 obtain ⟨h1, h2⟩ := h
 have L : WK.ki.words.length = 6 := rfl
 simp only [bne_iff_ne, bne_eq_false_iff_eq, fzO, List.take_length, Cls.eta, Ex.eta, forall_eq, beq_iff_eq, beq_eq_false_iff_ne, ne_eq, and_true, true_and, imp_self, decide_eq_true_eq, decide_eq_false_iff_not]
 refine ⟨⟨fun c hc => ⟨by have := (h1 c hc).1; omega, by have := (h1 c hc).2; omega⟩, by omega⟩, fun hn => ?_, fun hz => ?_⟩
 · rw [Zfx hn]; exact ⟨rfl, rfl⟩
 · obtain ⟨c1, c2, c3, c4, c5, c6⟩ := (Zau t).1 hz
   have hw : wr IntKind.i64 (t.for_ - 1) = t.for_ - 1 := wr64 (by omega) (by omega)
   rw [hw]
   refine ⟨by omega, by rw [L]; omega, fun x hx => ?_⟩
   have hall := Zna c6
   have hm : ∀ c ∈ t.clauses, c.pay.sz ≤ 10000 ∧ c.when_.length ≤ 8 := fun c hc => ⟨(h1 c hc).1, (hall c hc).2⟩
   have hlen : ∀ k, (txCs (t.clauses.take k)).length ≤ 80052 * 64 := fun k => by
    have a := Zm9 (cs := t.clauses.take k) (m := 10000) (fun c hc => hm c (List.mem_of_mem_take hc))
    have b : (t.clauses.take k).length ≤ 64 := by rw [List.length_take]; omega
    have e : (8 * 10000 + 52) * (t.clauses.take k).length ≤ (8 * 10000 + 52) * 64 := Nat.mul_le_mul_left _ b
    omega
   have hx5 : WK.ki.words.getD (t.for_ - 1).toNat [] = x := by rw [List.getD_eq_getElem?_getD, hx]; rfl
   refine ⟨fun y => y.k ≤ t.clauses.length ∧ y.fz = 0 ∧ y.L = [[116, 97, 114, 105, 102, 102], t.name, [102, 111, 114], x, [123]] ++ txCs (t.clauses.take y.k) ∧ y.r = t.clauses.length - y.k, ⟨⟨0, t.clauses.length, [[116, 97, 114, 105, 102, 102], t.name, [102, 111, 114], x, [123]], 0⟩, ⟨(by dsimp only; omega), rfl, by simp [txCs], rfl⟩, rfl, rfl, rfl, rfl⟩, ?_⟩
   rintro ⟨k, r, Lx, fx⟩ ⟨k1, k2, k3, k4⟩
   simp only at k1 k2 k3 k4 ⊢
   subst k2 k4
   have hL : Lx.length = 5 + (txCs (t.clauses.take k)).length := by rw [k3]; simp; omega
   have hlk := hlen k
   refine And.intro (fun hq => ⟨by omega, by omega, fun c hc => ?_⟩) (fun hq => ?_)
   · have hc : t.clauses[k]? = some c := hc
     have hq : k < t.clauses.length := by omega
     have hcm := List.mem_of_getElem? hc
     have b1 := hm c hcm
     have b2 := hall c hcm
     have e : Lx ++ txC c = [[116, 97, 114, 105, 102, 102], t.name, [102, 111, 114], x, [123]] ++ txCs (t.clauses.take (k + 1)) := by
      have ek : t.clauses.take (k + 1) = t.clauses.take k ++ [c] := by rw [List.take_add_one, hc]; rfl
      rw [k3, ek, Zik, List.append_assoc]
     refine ⟨⟨by omega, b2.1, by omega, by omega, by omega⟩, ⟨k + 1, t.clauses.length - (k + 1), Lx ++ txC c, 0⟩, ⟨hq, rfl, e, rfl⟩, (by dsimp only; omega), (wr64 (by omega) (by omega)).trans (by dsimp only; omega), rfl, rfl, rfl⟩
   · have ek : k = t.clauses.length := by omega
     have e : Lx ++ [[125]] = Uj t := by
      rw [k3, ek, List.take_length]
      unfold Uj
      rw [hx5]
      simp [Zep, sFor, sLb, sRb]
     have e1 : List.take (Lx.length + 1) (List.drop 0 (Lx ++ [[125]])) = Uj t := by
      rw [List.drop_zero, List.take_of_length_le (by simp), e]
     rw [e1]
     have e2 : (Uj t).length = Lx.length + 1 := by rw [← e]; simp
     have hj := Zij (ws := Uj t) (m := 32) (fun w hw => (Zn3 hz w hw).len)
     unfold Wq
     rw [if_neg (by rw [hz]; simp)]
     refine ⟨⟨Nat.le_refl _, by omega, by omega⟩, by rw [List.length_append]; simp, ⟨by omega, by omega⟩, fun h => ?_, fun h => ?_⟩
     · rw [if_pos (by omega)]; exact ⟨rfl, rfl⟩
     · rw [if_neg (by omega)]; exact ⟨rfl, rfl⟩
end
section
open Go
mutual
def szW : Int → Ex → Int
 | n, .mk _ _ _ _ _ _ l => if n > 60 ∨ (l.length : Int) > 400 then 401 else szWL (n + 1) 1 l
def szWL : Int → Int → List Ex → Int
 | _, a, [] => a
 | n, a, x :: r => if a ≤ 400 then szWL n (a + szW n x) r else a
end
theorem Z1t (n : Int) (x : Ex) : szW n x = if n > 60 ∨ (x.l.length : Int) > 400 then 401 else szWL (n + 1) 1 x.l := by cases x; rw [szW]; rfl
noncomputable def Sszw (m : Nat) : Sum thy := Vo Z7h (fun x => 62 ≤ x.2.1 + m ∧ 1 ≤ x.2.1 ∧ x.2.1 ≤ 61) (fun x => szW x.2.1 x.1) fun y => .int false .i64 y
noncomputable def Aszw : Fr thy → Hp thy → Nat → Ann thy := fun T h i => { X := DX, fr := fun x => [(1, T 1), (2, T 2), (5, .int false .i64 x.j), (6, .int false .i64 x.k)], bl := fun x => blkP h (T 2), src := fun _ => [], md := [], ih := i, M := i + 30, meas := fun x => x.r }
noncomputable def Fszw (m : Nat) : Fns thy := addL (addS F0 20 (Sszw m)) 20 5 Aszw E
abbrev qCN1 (a0 : Ex) := (Ex.op a0 = Ex.op a0 ∧ Ex.n a0 = Ex.n a0 ∧ Ex.d0 a0 = Ex.d0 a0 ∧ Ex.d1 a0 = Ex.d1 a0 ∧ Ex.d2 a0 = Ex.d2 a0 ∧ Ex.d3 a0 = Ex.d3 a0 ∧ (Ex.l a0 = Ex.l a0 ∧ (false = true → false = true)) ∧ True)
abbrev qCN2 (a0 : Ex) := (↑(List.length (Ex.l a0)) : Int)
abbrev qCN3 (a0 : DX) := (↑(DX.k a0) : Int)
theorem Z0f (m : Nat) (x : Ex) (n : Int) (v : Int) : Zk E F0 (vc E (Fszw m) 400) 20 [exA x, .int false .i64 n] hp0 0 (fun r => ret E (patch hp0 0 r) r.v (.int false .i64 v)) = (
 ∃ (Q : Bool → Prop), ((decide (n > (60 : Int)) = true → Q true) ∧ (decide (n > (60 : Int)) = false → (decide ((qCN2 x) > (400 : Int)) = true → Q true) ∧ (decide ((qCN2 x) > (400 : Int)) = false → Q false))) ∧ (Q true → (401 : Int) = v) ∧ (Q false → ∃ (R : DX → Prop), (∃ (x_1 : DX), R x_1 ∧ true = true ∧ (n = n ∧ (0 : Nat) = (0 : Nat) ∧ (1 : Int) = DX.j x_1 ∧ (0 : Int) = (qCN3 x_1) ∧ True) ∧ (qCN1 x) ∧ True) ∧ ∀ (x_1 : DX), R x_1 → ∃ (Q : Bool → Prop), ((decide ((qCN3 x_1) < (qCN2 x)) = true → (decide (DX.j x_1 ≤ (400 : Int)) = true → Q true) ∧ (decide (DX.j x_1 ≤ (400 : Int)) = false → Q false)) ∧ (decide ((qCN3 x_1) < (qCN2 x)) = false → Q false)) ∧ (Q true → (0 : Int) ≤ (qCN3 x_1) ∧ (qCN3 x_1) + (1 : Int) ≤ (qCN2 x) ∧ ∀ (x_2 : Ex), (Ex.l x)[Int.toNat (qCN3 x_1)]? = some x_2 → ((62 : Int) ≤ wr IntKind.i64 (n + (1 : Int)) + (↑m : Int) ∧ (1 : Int) ≤ wr IntKind.i64 (n + (1 : Int)) ∧ wr IntKind.i64 (n + (1 : Int)) ≤ (61 : Int)) ∧ ∀ (y : Int), y = szW (wr IntKind.i64 (n + (1 : Int))) (Ex.mk (Ex.op x_2) (Ex.n x_2) (Ex.d0 x_2) (Ex.d1 x_2) (Ex.d2 x_2) (Ex.d3 x_2) (Ex.l x_2)) → ∃ (x_3 : DX), R x_3 ∧ x_3.2 + (1 : Nat) ≤ x_1.2 ∧ true = true ∧ (n = n ∧ (0 : Nat) = (0 : Nat) ∧ wr IntKind.i64 (DX.j x_1 + y) = DX.j x_3 ∧ wr IntKind.i64 ((qCN3 x_1) + (1 : Int)) = (qCN3 x_3) ∧ True) ∧ (qCN1 x) ∧ True) ∧ (Q false → DX.j x_1 = v))) := by kernel_rfl
noncomputable def Afw : Fr thy → Hp thy → Nat → Ann thy := fun T h i => { X := DX, fr := fun x => [(1, T 1), (3, .int false .i64 x.j), (4, .int false .i64 x.k)], bl := fun x => blkP h (T 1), src := fun _ => [], md := [], ih := i, M := i + 40, meas := fun x => x.r }
noncomputable def Ffw : Fns thy := addL (addS F0 20 (Sszw 61)) 14 5 Afw E
abbrev qCN4 (a0 : Tar) := (↑(List.length (Tar.clauses a0)) : Int)
abbrev qCN5 (a0 : DX) := (↑(DX.k a0) : Int)
abbrev qCN6 (a0 : Tar) := (Tar.name a0 = Tar.name a0 ∧ Tar.for_ a0 = Tar.for_ a0 ∧ (Tar.clauses a0 = Tar.clauses a0 ∧ (false = true → false = true)) ∧ True)
theorem Z4i (t : Tar) (v : Bool) : Zk E Ffw (vc E Ffw 400) 14 [.agg (encF false .tariffs t)] hp0 0 (fun r => ret E (patch hp0 0 r) r.v (.bool false v)) = (
 (decide ((qCN4 t) > (80 : Int)) = true → false = v) ∧ (decide ((qCN4 t) > (80 : Int)) = false → ∃ (R : DX → Prop), (∃ (x : DX), R x ∧ true = true ∧ ((0 : Nat) = (0 : Nat) ∧ (0 : Int) = DX.j x ∧ (0 : Int) = (qCN5 x) ∧ True) ∧ (qCN6 t) ∧ True) ∧ ∀ (x : DX), R x → (decide ((qCN5 x) < (qCN4 t)) = true → (0 : Int) ≤ (qCN5 x) ∧ (qCN5 x) + (1 : Int) ≤ (qCN4 t) ∧ ∀ (x_1 : Cls), (Tar.clauses t)[Int.toNat (qCN5 x)]? = some x_1 → (decide ((↑(List.length (Cls.when_ x_1)) : Int) > (400 : Int)) = true → false = v) ∧ (decide ((↑(List.length (Cls.when_ x_1)) : Int) > (400 : Int)) = false → (0 : Int) ≤ (qCN5 x) ∧ (qCN5 x) + (1 : Int) ≤ (qCN4 t) ∧ ∀ (x_2 : Cls), (Tar.clauses t)[Int.toNat (qCN5 x)]? = some x_2 → (0 : Int) ≤ (qCN5 x) ∧ (qCN5 x) + (1 : Int) ≤ (qCN4 t) ∧ ∀ (x_3 : Cls), (Tar.clauses t)[Int.toNat (qCN5 x)]? = some x_3 → ((62 : Int) ≤ (1 : Int) + (↑(61 : Nat) : Int) ∧ (1 : Int) ≤ (1 : Int) ∧ (1 : Int) ≤ (61 : Int)) ∧ ∀ (y : Int), y = szW (1 : Int) (Ex.mk (Ex.op (Cls.pay x_3)) (Ex.n (Cls.pay x_3)) (Ex.d0 (Cls.pay x_3)) (Ex.d1 (Cls.pay x_3)) (Ex.d2 (Cls.pay x_3)) (Ex.d3 (Cls.pay x_3)) (Ex.l (Cls.pay x_3))) → ∃ (x_4 : DX), R x_4 ∧ x_4.2 + (1 : Nat) ≤ x.2 ∧ true = true ∧ ((0 : Nat) = (0 : Nat) ∧ wr IntKind.i64 (wr IntKind.i64 (DX.j x + (↑(List.length (Cls.when_ x_2)) : Int)) + y) = DX.j x_4 ∧ wr IntKind.i64 ((qCN5 x) + (1 : Int)) = (qCN5 x_4) ∧ True) ∧ (qCN6 t) ∧ True)) ∧ (decide ((qCN5 x) < (qCN4 t)) = false → (decide (DX.j x ≤ (400 : Int)) = true → true = v) ∧ (decide (DX.j x ≤ (400 : Int)) = false → false = v)))) := by kernel_rfl
structure TtX where
 k : Nat
 r : Nat
 L : List (List Nat)
def Atx : Fr thy → Hp thy → Nat → Ann thy := fun T h i => { X := TtX, fr := fun x => [(3, T 3), (9, T 9), (10, T 10), (11, .int false .i64 x.k)], bl := fun x => [(bOf (T 3), .rows Th.strs x.L 0)], src := fun _ => [], md := [bOf (T 3)], ih := i, M := i + 30, meas := fun x => x.r }
noncomputable def Ftx : Fns thy := addL (addS F0 44 Z1x) 27 3 Atx E
abbrev qCN7 (a0 : List Tok) := (↑(List.length a0) : Int)
abbrev qCN8 (a0 : TtX) := (↑(TtX.k a0) : Int)
abbrev qCN9 := (0 : Nat)
abbrev qCNa (a0 : List Tok) := (qCN9 = qCN9 ∧ Int.toNat (qCN7 a0) = Int.toNat (qCN7 a0) ∧ Int.toNat (qCN7 a0) = Int.toNat (qCN7 a0))
abbrev qCNb (a0 : List Tok) (b0 : TtX) := (List.take (Int.toNat (qCN7 a0)) (List.drop qCN9 (TtX.L b0)))
theorem Z4j (l : List Tok) (v : List Nat) : Zk E Ftx (vc E Ftx 400) 27 [.psl Th.toks l false] hp0 0 (fun r => ret E (patch hp0 0 r) r.v (.str false v)) = (
 (0 : Int) ≤ (qCN7 l) ∧ (qCN7 l) ≤ (qCN7 l) ∧ (↑(16 : Nat) : Int) * (qCN7 l) ≤ (281474976710656 : Int) ∧ ∃ (R : TtX → Prop), (∃ (x : TtX), R x ∧ true = true ∧ ((qCNa l) ∧ (l = l ∧ (false = true → false = true)) ∧ (qCN7 l) = (qCN7 l) ∧ (0 : Int) = (qCN8 x) ∧ True) ∧ (List.replicate (Int.toNat (qCN7 l)) (toL (ByteArray.mk #[])) = TtX.L x ∧ qCN9 = qCN9) ∧ True) ∧ ∀ (x : TtX), R x → (decide ((qCN8 x) < (qCN7 l)) = true → (0 : Int) ≤ (qCN8 x) ∧ (qCN8 x) + (1 : Int) ≤ (qCN7 l) ∧ ∀ (x_1 : Tok), l[Int.toNat (qCN8 x)]? = some x_1 → ((0 : Int) ≤ (qCN8 x) ∧ (qCN8 x) + (1 : Int) ≤ (↑(Int.toNat (qCN7 l)) : Int)) ∧ qCN9 ≤ qCN9 + Int.toNat (qCN8 x) ∧ qCN9 + Int.toNat (qCN8 x) + (1 : Nat) ≤ List.length (TtX.L x) ∧ ∀ (x_2 : List Nat), (TtX.L x)[qCN9 + Int.toNat (qCN8 x)]? = some x_2 → ∃ (x_3 : TtX), R x_3 ∧ x_3.2 + (1 : Nat) ≤ x.2 ∧ true = true ∧ ((qCNa l) ∧ (l = l ∧ (false = true → false = true)) ∧ (qCN7 l) = (qCN7 l) ∧ wr IntKind.i64 ((qCN8 x) + (1 : Int)) = (qCN8 x_3) ∧ True) ∧ (List.set (TtX.L x) (qCN9 + Int.toNat (qCN8 x)) (Tok.text x_1) = TtX.L x_3 ∧ qCN9 = qCN9) ∧ True) ∧ (decide ((qCN8 x) < (qCN7 l)) = false → qCN9 + Int.toNat (qCN7 l) ≤ List.length (TtX.L x) ∧ (([(32 : Nat)] = [(32 : Nat)] ∧ List.length (qCNb l x) ≤ (1000000000 : Nat)) ∧ List.length (Y2 (qCNb l x)) ≤ (1000000000 : Nat)) ∧ ∀ (y : List Nat), y = Y2 (qCNb l x) → y = v)) := by kernel_rfl
mutual
theorem Ze5 : ∀ (n : Int) (x : Ex), 1 ≤ szW n x
 | n, .mk _ _ _ _ _ _ l => by
  rw [szW]
  split
  · decide
  · exact Zm4 (n + 1) 1 l
theorem Zm4 : ∀ (n a : Int) (l : List Ex), a ≤ szWL n a l
 | n, a, [] => by rw [szWL]; omega
 | n, a, x :: r => by
  rw [szWL]
  split
  · have := Ze5 n x
    have := Zm4 n (a + szW n x) r
    omega
  · omega
end
mutual
theorem Zm5 : ∀ (n : Int) (x : Ex), n ≤ 61 → szW n x ≤ 401 + 400 * (61 - n)
 | n, .mk _ _ _ _ _ _ l, hn => by
  rw [szW]
  split
  · omega
  · have := Zpc (n + 1) 1 l (by omega) (by omega)
    omega
theorem Zpc : ∀ (n a : Int) (l : List Ex), n ≤ 61 → a ≤ 801 + 400 * (61 - n) → szWL n a l ≤ 801 + 400 * (61 - n)
 | n, a, [], _, h => by rw [szWL]; omega
 | n, a, x :: r, hn, h => by
  rw [szWL]
  split
  · have := Zm5 n x hn
    exact Zpc n (a + szW n x) r hn (by omega)
  · omega
end
mutual
theorem Z1u : ∀ (n : Int) (x : Ex), szW n x ≤ 400 → szW n x = (x.sz : Int)
 | n, .mk _ _ _ _ _ _ l, h => by
  rw [szW] at h ⊢
  split at h
  · omega
  · rename_i hq
    rw [if_neg hq, Zwm (n + 1) 1 l (by decide) h, Ex.sz]
    omega
theorem Zwm : ∀ (n a : Int) (l : List Ex), 0 ≤ a → szWL n a l ≤ 400 → szWL n a l = a + (Ex.szL l : Int)
 | n, a, [], _, _ => by rw [szWL, Ex.szL]; omega
 | n, a, x :: r, ha, h => by
  rw [szWL] at h ⊢
  split at h
  · rename_i hq
    have h1 := Ze5 n x
    have h2 := Zm4 n (a + szW n x) r
    have h3 := Z1u n x (by omega)
    rw [if_pos hq, Zwm n (a + szW n x) r (by omega) h, Ex.szL]
    omega
  · rename_i hq
    omega
end
theorem Zkq {n a : Int} {l : List Ex} {k : Nat} {y : Ex} (h : l[k]? = some y) : szWL n a (l.drop k) = if a ≤ 400 then szWL n (a + szW n y) (l.drop (k + 1)) else a := by rw [Vl h, szWL]
theorem Z4k : ∀ (m : Nat) (n : Int) (x : Ex), 62 ≤ n + m → 1 ≤ n → n ≤ 61 → PureC E 20 [exA x, .int false .i64 n] (.int false .i64 (szW n x)) := by
 intro m
 induction m with
 | zero => intro n x h; omega
 | succ m ih =>
  intro n x hm h1 h61
  have hF : FnsOk E (Fszw m) := Zv E_ok (Zb F0_ok (Z3 E_ok (Zc (f := 20) rfl) fun x h => ih x.2.1 x.1 h.1 h.2.1 h.2.2)) _ _ _
  refine Za E_ok (Xt E_ok F0_ok fun f N c => (Zhl E_ok hF 400 f N c).1) ?_
  rw [Z0f]; delta qCN1 qCN2 qCN3
  simp only [Z8, Z0, X2, X3, X4, beq_iff_eq, bne_iff_ne, beq_eq_false_iff_ne, bne_eq_false_iff_eq, decide_eq_true_eq, decide_eq_false_iff_not, Bool.or_eq_true, Bool.or_eq_false_iff, Bool.not_eq_true', Bool.not_eq_false', Bool.and_eq_true, Bool.and_true, Bool.true_and, Bool.and_eq_false_iff, beq_self_eq_true, Yx, Yn, ne_eq, and_true, true_and, Bool.true_eq_false, Bool.false_eq_true, false_or, or_false, true_implies, imp_self, Int.ofNat_eq_natCast, not_true_eq_false, not_false_eq_true, Decidable.not_not, Ex.eta, forall_eq]
  by_cases h : n > 60 ∨ (x.l.length : Int) > 400
  · exact ⟨fun b => b = true, ⟨fun _ => rfl, fun h1 => ⟨fun _ => rfl, fun h2 => absurd h (by omega)⟩⟩, fun _ => by rw [Z1t, if_pos h], fun h => by simp at h⟩
  · refine ⟨fun b => b = false, ⟨fun h1 => absurd h (by omega), fun _ => ⟨fun h2 => absurd h (by omega), fun _ => rfl⟩⟩, fun h => by simp at h, fun _ => ?_⟩
    rw [Z1t, if_neg h]
    refine ⟨fun y => y.k ≤ x.l.length ∧ 1 ≤ y.j ∧ y.j ≤ 801 + 400 * (60 - n) ∧ szWL (n + 1) y.j (x.l.drop y.k) = szWL (n + 1) 1 x.l ∧ y.r = x.l.length - y.k, ⟨⟨0, x.l.length, [], [], 0, 0, 0, 1⟩, ⟨(by dsimp only; omega), (by dsimp only; omega), (by dsimp only; omega), rfl, rfl⟩, rfl, rfl⟩, ?_⟩
    rintro ⟨k, r, D, H, nn, mm, fz, j⟩ ⟨k1, k2, k3, k4, k5⟩
    simp only at k1 k2 k3 k4 k5 ⊢
    have hw : wr IntKind.i64 (n + 1) = n + 1 := wr64 (by omega) (by omega)
    rw [hw]
    refine ⟨fun b => b = true ↔ (k < x.l.length ∧ j ≤ 400), ⟨fun h3 => ⟨fun h4 => by simp; omega, fun h4 => by simp; omega⟩, fun h3 => by simp; omega⟩, fun hq => ?_, fun hq => ?_⟩
    · have hq := hq.1 rfl
      refine ⟨by omega, by omega, fun z hz => ?_⟩
      have hz : x.l[k]? = some z := hz
      have b1 := Ze5 (n + 1) z
      have b2 := Zm5 (n + 1) z (by omega)
      rw [Zkq hz, if_pos hq.2] at k4
      refine ⟨⟨by omega, by omega, by omega⟩, ⟨k + 1, x.l.length - (k + 1), [], [], 0, 0, 0, j + szW (n + 1) z⟩, ⟨(by dsimp only; omega), (by dsimp only; omega), (by dsimp only; omega), k4, rfl⟩, (by dsimp only; omega), wr64 (by omega) (by omega), (wr64 (by omega) (by omega)).trans (by dsimp only; omega)⟩
    · have hq : ¬ (k < x.l.length ∧ j ≤ 400) := fun h => by have := hq.2 h; simp at this
      rcases Nat.lt_or_ge k x.l.length with hk | hk
      · rw [Zkq (List.getElem?_eq_getElem hk), if_neg (by omega)] at k4
        exact k4
      · rw [Wt hk, szWL] at k4
        exact k4
def Ze6 : Int → List Cls → Bool
 | a, [] => decide (a ≤ 400)
 | a, c :: r => if (c.when_.length : Int) > 400 then false else Ze6 (a + c.when_.length + szW 1 c.pay) r
def fewT (t : Tar) : Bool := if (t.clauses.length : Int) > 80 then false else Ze6 0 t.clauses
theorem Zry {a : Int} {l : List Cls} {k : Nat} {c : Cls} (h : l[k]? = some c) : Ze6 a (l.drop k) = if (c.when_.length : Int) > 400 then false else Ze6 (a + c.when_.length + szW 1 c.pay) (l.drop (k + 1)) := by rw [Vl h, Ze6]
theorem Zpd : ∀ {l : List Cls} {a : Int}, 0 ≤ a → Ze6 a l = true → a ≤ 400 ∧ ∀ c ∈ l, c.pay.sz ≤ 400 ∧ c.when_.length ≤ 400
 | [], a, _, h => by simpa [Ze6] using h
 | c :: r, a, ha, h => by
  rw [Ze6] at h
  split at h
  · cases h
  · have p := Ze5 1 c.pay
    obtain ⟨h1, h2⟩ := Zpd (by omega) h
    have h3 := Z1u 1 c.pay (by omega)
    refine ⟨by omega, fun x hx => ?_⟩
    rcases List.mem_cons.1 hx with rfl | hx
    · exact ⟨by omega, by omega⟩
    · exact h2 x hx
theorem Z4l {t : Tar} (h : fewT t = true) : (∀ c ∈ t.clauses, c.pay.sz ≤ 400 ∧ c.when_.length ≤ 400) ∧ t.clauses.length ≤ 80 := by
 unfold fewT at h
 split at h
 · cases h
 · exact ⟨(Zpd (by decide) h).2, by omega⟩
theorem Z9g {t : Tar} (h : fewT t = true) : SmT t := by
 obtain ⟨h1, h2⟩ := Z4l h
 exact ⟨fun c hc => ⟨by have := (h1 c hc).1; omega, by have := (h1 c hc).2; omega⟩, by omega⟩
theorem SmT.one {t : Tar} (h : SmT t) : SmT1 t := ⟨fun c hc => ⟨by have := (h.1 c hc).1; omega, (h.1 c hc).2⟩, h.2⟩
theorem Z4m (t : Tar) : PureC E 14 [.agg (encF false .tariffs t)] (.bool false (fewT t)) := by
 have hF : FnsOk E Ffw := Zv E_ok (Zb F0_ok (Z3 E_ok (Zc (f := 20) rfl) fun x h => Z4k 61 x.2.1 x.1 h.1 h.2.1 h.2.2)) _ _ _
 refine Za E_ok (Zg E_ok hF 400) ?_
 rw [Z4i]; delta qCN4 qCN5 qCN6
 simp only [Z8, Z0, X2, X3, X4, beq_iff_eq, bne_iff_ne, beq_eq_false_iff_ne, bne_eq_false_iff_eq, decide_eq_true_eq, decide_eq_false_iff_not, Bool.or_eq_true, Bool.or_eq_false_iff, Bool.not_eq_true', Bool.not_eq_false', Bool.and_eq_true, Bool.and_true, Bool.true_and, Bool.and_eq_false_iff, beq_self_eq_true, Yx, Yn, ne_eq, and_true, true_and, Bool.true_eq_false, Bool.false_eq_true, false_or, or_false, true_implies, imp_self, Int.ofNat_eq_natCast, not_true_eq_false, not_false_eq_true, Decidable.not_not, Ex.eta, forall_eq]
 unfold fewT
 refine ⟨fun h => by rw [if_pos h], fun h => ?_⟩
 rw [if_neg h]
 refine ⟨fun y => y.k ≤ t.clauses.length ∧ 0 ≤ y.j ∧ y.j ≤ 30000 * y.k ∧ Ze6 y.j (t.clauses.drop y.k) = Ze6 0 t.clauses ∧ y.r = t.clauses.length - y.k, ⟨⟨0, t.clauses.length, [], [], 0, 0, 0, 0⟩, ⟨(by dsimp only; omega), (by dsimp only; omega), (by dsimp only; omega), rfl, rfl⟩, rfl, rfl⟩, ?_⟩
 rintro ⟨k, r, D, H, nn, mm, fz, j⟩ ⟨k1, k2, k3, k4, k5⟩
 simp only at k1 k2 k3 k4 k5 ⊢
 refine And.intro (fun hq => ⟨by omega, by omega, fun c hc => ?_⟩) (fun hq => ?_)
 · have hc : t.clauses[k]? = some c := hc
   rw [Zry hc] at k4
   refine ⟨fun h2 => ?_, fun h2 => ⟨by omega, by omega, fun c2 hc2 => ?_⟩⟩
   · rw [if_pos h2] at k4; exact k4
   · have hc2 : t.clauses[k]? = some c2 := hc2
     rw [hc] at hc2; cases hc2
     refine ⟨by omega, by omega, fun c3 hc3 => ?_⟩
     have hc3 : t.clauses[k]? = some c3 := hc3
     rw [hc] at hc3; cases hc3
     have b1 := Ze5 1 c.pay
     have b2 := Zm5 1 c.pay (by decide)
     rw [if_neg h2] at k4
     rw [wr64 (n := j + (c.when_.length : Int)) (by omega) (by omega)]
     exact ⟨⟨by decide, by decide, by decide⟩, ⟨k + 1, t.clauses.length - (k + 1), [], [], 0, 0, 0, j + c.when_.length + szW 1 c.pay⟩, ⟨(by dsimp only; omega), (by dsimp only; omega), (by dsimp only; omega), k4, rfl⟩, (by dsimp only; omega), wr64 (by omega) (by omega), (wr64 (by omega) (by omega)).trans (by dsimp only; omega)⟩
 · rw [Wt (by omega), Ze6] at k4
   rw [← k4]
   exact ⟨fun h => by simpa using h, fun h => by simpa using h⟩
theorem Z4n (l : List Tok) (h1 : l.length ≤ 1000000000) (h2 : (Y2 (l.map Tok.text)).length ≤ 1000000000) : PureC E 27 [.psl Th.toks l false] (.str false (Y2 (l.map Tok.text))) := by
 have hF : FnsOk E Ftx := Zv E_ok (Zb F0_ok Znb) _ _ _
 refine Za E_ok (Zg E_ok hF 400) ?_
 rw [Z4j]; delta qCN7 qCN8 qCN9 qCNa qCNb
 simp only [Z8, Z0, X2, X3, X4, beq_iff_eq, bne_iff_ne, beq_eq_false_iff_ne, bne_eq_false_iff_eq, decide_eq_true_eq, decide_eq_false_iff_not, Bool.or_eq_true, Bool.or_eq_false_iff, Bool.not_eq_true', Bool.not_eq_false', Bool.and_eq_true, Bool.and_true, Bool.true_and, Bool.and_eq_false_iff, beq_self_eq_true, Yx, Yn, ne_eq, and_true, true_and, Bool.true_eq_false, Bool.false_eq_true, false_or, or_false, true_implies, imp_self, Int.ofNat_eq_natCast, not_true_eq_false, not_false_eq_true, Decidable.not_not, Int.toNat_natCast, Nat.zero_add, List.drop_zero, forall_eq]
 refine ⟨by omega, by omega, by omega, fun y => y.k ≤ l.length ∧ y.L = (l.take y.k).map Tok.text ++ List.replicate (l.length - y.k) [] ∧ y.r = l.length - y.k, ⟨⟨0, l.length, List.replicate l.length []⟩, ⟨(by dsimp only; omega), rfl, rfl⟩, rfl, rfl⟩, ?_⟩
 rintro ⟨k, r, L⟩ ⟨k1, k2, k3⟩
 simp only at k1 k2 k3 ⊢
 have hL : L.length = l.length := by rw [k2]; simp; omega
 refine And.intro (fun hq => ⟨by omega, by omega, fun z hz => ⟨⟨by omega, by omega⟩, by omega, by omega, fun y hy => ?_⟩⟩) (fun hq => ?_)
 · have hq : k < l.length := by omega
   have hz : l[k]? = some z := hz
   refine ⟨⟨k + 1, l.length - (k + 1), L.set k z.text⟩, ⟨hq, ?_, rfl⟩, (by dsimp only; omega), (wr64 (by omega) (by omega)).trans (by dsimp only; omega), rfl⟩
   have e1 : ((l.take k).map Tok.text).length = k := by simp; omega
   have e2 : l.length - k = (l.length - (k + 1)) + 1 := by omega
   show L.set k z.text = (l.take (k + 1)).map Tok.text ++ List.replicate (l.length - (k + 1)) []
   rw [k2, List.take_add_one, hz, e2, List.replicate_succ, List.set_append_right _ _ (by omega), e1, Nat.sub_self]
   simp
 · have ek : k = l.length := by omega
   have e : L = l.map Tok.text := by rw [k2, ek]; simp
   rw [List.take_of_length_le (by omega), e]
   refine ⟨by rw [List.length_map]; exact Nat.le_refl _, ⟨by rw [List.length_map]; exact h1, h2⟩, rfl⟩
end
section
open Go
noncomputable def Z2k : DcL E (Tar × Unit) := .cons (dR .tariffs) .nil
noncomputable def Z8h : DcL E (Tar × Tar × Unit) := .cons (dR .tariffs) (.cons (dR .tariffs) .nil)
def Z5g : List (SV thy) → Option (SV thy)
 | [] => some (.bool true true)
 | _ => none
noncomputable def Z5h : Sum thy := sumO Z5g
noncomputable def Sfew : Sum thy := Zrz E (fun _ => none) 10 Z2k (fun _ => True) (fun x => fewT x.1) fun y => .bool false y
noncomputable def Srs : Sum thy := Zrz E (fun _ => none) 10 Z8h (fun x => SmT1 x.1) (fun x => eqE x.1 x.2.1) fun y => .bool false y
noncomputable def Z5i : Sum thy := Vo (dA1 dS) (fun _ => True) (fun x => Ws x.1) fun y => parV false y
noncomputable def Z5j : Sum thy := Zrz E (fun _ => none) 10 Z2k (fun x => SmT x.1) (fun x => Wq x.1) fun y => .tup [.str false y.1, .int false .i64 y.2]
noncomputable def Schk : Sum thy := Zrz E (fun _ => none) 10 Z2k (fun x => SmT x.1) (fun x => Y3 x.1) fun y => .int false .i64 y
noncomputable def Z8i : Sum thy := Vo (dA1 Z7q) (fun x => x.1.length ≤ 1000000000 ∧ (Y2 (x.1.map Tok.text)).length ≤ 1000000000) (fun x => Y2 (x.1.map Tok.text)) fun y => .str false y
theorem SmT.chk {t : Tar} (h : SmT t) : PureC E 17 [.agg (encF false .tariffs t)] (.int false .i64 (Y3 t)) :=
 Zfo t (fun c hc => ⟨by have := (h.1 c hc).1; omega, by have := (h.1 c hc).2; omega⟩) (by have := h.2; omega)
noncomputable def Flw : Fns thy := Zvj (addS (addS (addS (addS (addS (addS (addS (addS (addS F0 10 Z5h) 14 Sfew) 13 Srs) 19 Srs) 11 Z5i) 15 Z5j) 17 Schk) 25 Zmf) 27 Z8i)
theorem Zxk : SumOk E 10 Z5h := Zdy E_ok (Zc rfl) fun args v h => by
 unfold Z5g at h
 split at h
 · cases h; exact Zvm
 · cases h
theorem Z5k : FnsOk E Flw := Zkd (Zb (Zb (Zb (Zb (Zb (Zb (Zb (Zb (Zb F0_ok Zxk) (Zbv E_ok (Zc rfl) fun x _ => Z4m x.1)) (Zbv E_ok (Zc rfl) fun x h => Z4w x.1 x.2.1 h)) (Zbv E_ok (Zc rfl) fun x h => Z0k x.1 x.2.1 h)) (Z3 E_ok (Zc rfl) fun x _ => Zgb x.1)) (Zbv E_ok (Zc rfl) fun x h => Zpk x.1 h)) (Zbv E_ok (Zc rfl) fun x h => SmT.chk h)) Zga) (Z3 E_ok (Zc rfl) fun x h => Z4n x.1 h.1 h.2))
abbrev qCO4 := (1000000000 : Nat)
abbrev qCO1 (a0 : Tar) := ((∀ (c : Cls), c ∈ Tar.clauses a0 → Ex.sz (Cls.pay c) + (1 : Nat) ≤ qCO4 ∧ List.length (Cls.when_ c) + (1 : Nat) ≤ qCO4) ∧ List.length (Tar.clauses a0) + (1 : Nat) ≤ qCO4)
abbrev qCO2 (a0 : Tar) := ((∀ (c : Cls), c ∈ Tar.clauses a0 → Ex.sz (Cls.pay c) ≤ (10000 : Nat) ∧ List.length (Cls.when_ c) + (1 : Nat) ≤ qCO4) ∧ List.length (Tar.clauses a0) + (1 : Nat) ≤ qCO4)
abbrev qCO3 (a0 : List Nat × Int) := (Prod.fst a0 == toL (ByteArray.mk #[]))
theorem Z2l (t : Tar) (v : Bool) : Zk E Flw (vc E Flw 400) 5 [.agg (encF false .tariffs t)] hp0 0 (fun r => ret E (patch hp0 0 r) r.v (.bool false v)) = (
 True ∧ ∀ (y : Bool), y = fewT t → ((!y) = true → true = v) ∧ ((!y) = false → (qCO2 t) ∧ ∀ (y : Int), y = Y3 t → (qCO2 t) ∧ ∀ (y_1 : List Nat × Int), y_1 = Wq t → ((y != (0 : Int)) = true → ((Prod.snd y_1 == y) = true → ((qCO3 y_1) = true → true = v) ∧ ((qCO3 y_1) = false → false = v)) ∧ ((Prod.snd y_1 == y) = false → false = v)) ∧ ((y != (0 : Int)) = false → ((Prod.snd y_1 != (0 : Int)) = true → ((Prod.snd y_1 == (2 : Int)) = true → ((qCO3 y_1) = true → true = v) ∧ ((qCO3 y_1) = false → false = v)) ∧ ((Prod.snd y_1 == (2 : Int)) = false → false = v)) ∧ ((Prod.snd y_1 != (0 : Int)) = false → True ∧ ∀ (y : Tar × Int × Int), y = Ws (Prod.fst y_1) → ((Prod.snd (Prod.snd y) == (0 : Int)) = true → ((Prod.fst (Prod.snd y) == (0 : Int)) = true → (qCO1 t) ∧ ∀ (y_2 : Bool), y_2 = eqE t (Prod.fst y) → (y_2 = true → (qCO1 t) ∧ ∀ (y_3 : Bool), y_3 = eqE t (Prod.fst y) → (y_3 = true → (decide ((↑(List.length (Prod.fst y_1)) : Int) ≤ (2000 : Int)) = true → true = v) ∧ (decide ((↑(List.length (Prod.fst y_1)) : Int) ≤ (2000 : Int)) = false → false = v)) ∧ (y_3 = false → false = v)) ∧ (y_2 = false → false = v)) ∧ ((Prod.fst (Prod.snd y) == (0 : Int)) = false → false = v)) ∧ ((Prod.snd (Prod.snd y) == (0 : Int)) = false → false = v))))) := by kernel_rfl
theorem Z2m (t : Tar) : PureC E 5 [.agg (encF false .tariffs t)] (.bool false true) := by
 refine Za E_ok (Zg E_ok Z5k 400) ?_
 rw [Z2l]; delta qCO4 qCO1 qCO2 qCO3
 simp only [Z8, Z0, X2, X3, X4, beq_iff_eq, bne_iff_ne, beq_eq_false_iff_ne, bne_eq_false_iff_eq, decide_eq_true_eq, decide_eq_false_iff_not, Bool.or_eq_true, Bool.or_eq_false_iff, Bool.not_eq_true', Bool.not_eq_false', Bool.and_eq_true, Bool.and_true, Bool.true_and, Bool.and_eq_false_iff, beq_self_eq_true, Yx, Yn, ne_eq, and_true, true_and, Bool.true_eq_false, Bool.false_eq_true, false_or, or_false, true_implies, imp_self, Int.ofNat_eq_natCast, not_true_eq_false, not_false_eq_true, Decidable.not_not, Cls.eta, forall_eq, eqE_iff, eqE_no]
 refine ⟨fun _ => trivial, fun hf => ?_⟩
 have hs := Z9g hf
 refine ⟨hs, hs, fun hc => ?_, fun hc => ?_⟩
 · rw [Zfx hc]
   exact ⟨fun _ => ⟨fun _ => trivial, fun h => absurd rfl h⟩, fun h => absurd rfl h⟩
 · rcases Zlf hc with ⟨h1, h2, h3⟩ | h1
   · rw [h3, Zle hc h2]
     exact ⟨fun h => absurd h1 h, fun _ => ⟨fun _ => ⟨fun _ => ⟨hs.one, fun _ => ⟨hs.one, fun _ => ⟨fun _ => trivial, fun h => absurd (by omega) h⟩, fun h => absurd rfl h⟩, fun h => absurd rfl h⟩, fun h => absurd rfl h⟩, fun h => absurd rfl h⟩⟩
   · rw [h1]
     exact ⟨fun _ => ⟨fun _ => ⟨fun _ => trivial, fun h => absurd rfl h⟩, fun h => absurd rfl h⟩, fun h => by cases h⟩
end
end Go.Proofs.YtbepgmadijomjaaGreatDoor
