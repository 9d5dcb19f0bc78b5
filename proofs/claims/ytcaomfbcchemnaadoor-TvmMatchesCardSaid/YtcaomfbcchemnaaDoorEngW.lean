/- A symbolic executor, part W: loops with an invariant. -/
import Derived.Test.YtcaomfbcchemnaaDoorEngL
namespace Go.Proofs.YtcaomfbcchemnaaDoor
open Go.RowKit
set_option linter.unusedVariables false

section
variable {Y : Thy}

/-- What is known at the head of a loop. X: the loop's own state. md: older blocks that are changed. src: new names of blocks, and the slots where these blocks are found. ih, M: new names at the head lie below ih, all others below M. -/
structure Ann (Y : Thy) where
  X : Type
  fr : X → List (Nat × SV Y)
  bl : X → List (Nat × Blk Y)
  src : List (Nat × Nat)
  md : List Nat
  ih : Nat
  M : Nat
  meas : X → Nat

def frOf : List (Nat × SV Y) → Fr Y
  | [] => fun _ => .unk
  | (s, v) :: r => upd (frOf r) s v
def blOf : List (Nat × Blk Y) → Hp Y
  | [] => fun _ => none
  | (b, x) :: r => upd (blOf r) b (some x)
def idOf : SV Y → Option Nat
  | .ptr b _ => some b
  | .sl b _ _ _ _ => some b
  | .map b => some b
  | _ => none
/-- which block a name of the head stands for -/
def renO (i : Nat) (T : Fr Y) : List (Nat × Nat) → Nat → Option Nat
  | [], b => match Nat.blt b i with | true => some b | false => none
  | (b', s) :: r, b => match Nat.beq b b' with | true => idOf (T s) | false => renO i T r b

/-! The state fits what the head says. -/
def leCap : Option Nat → Option Nat → Prop
  | _, none => True
  | some a, some b => a = b
  | _, _ => False
def sameO2 (a : Option Nat) (b : Nat) (K : Prop) : Prop := match a with | some a => sameN a b K | none => False
def le0 (ren : Nat → Option Nat) (v v' : SV Y) : Prop :=
  match v' with
  | .unk => True
  | .int _ k' n' => (match v with | .int _ k n => (match decide (k = k') with | true => n = n' | false => False) | _ => False)
  | .bool _ b' => (match v with | .bool _ b => b = b' | _ => False)
  | .str _ s' => (match v with | .str _ s => s = s' | _ => False)
  | .val u' => (match v with | .val u => u = u' | _ => False)
  | .ptr b' o' => (match v with | .ptr b o => sameO2 (ren b') b (o = o') | _ => False)
  | .sl b' o' n' w' c' => (match v with | .sl b o n w c => sameO2 (ren b') b (sameN w w' (o = o' ∧ n = n' ∧ leCap c c')) | _ => False)
  | .map b' => (match v with | .map b => sameO2 (ren b') b True | _ => False)
  | .psl th' l' f' => (match v with
    | .psl th l f => castK l (fun l => l = l') ∧ (f' = true → f = true)
    | .val (.slice none 0 0) => l' = []
    | _ => False)
  | .pptr th' x' o' => (match v with | .pptr th x o => castK [x] (fun l => l = [x']) ∧ o = o' | _ => False)
  | _ => False
def leL (ren : Nat → Option Nat) : List (SV Y) → List (SV Y) → Prop
  | [], [] => True
  | x :: r, x' :: r' => le0 ren x x' ∧ leL ren r r'
  | _, _ => False
def le1 (ren : Nat → Option Nat) (v v' : SV Y) : Prop :=
  match v', v with
  | .agg cs', .agg cs => leL ren cs cs'
  | .tup cs', .tup cs => leL ren cs cs'
  | .fn f' a' b', .fn f a b => f = f' ∧ leL ren a a' ∧ leL ren b b'
  | v', v => le0 ren v v'
def leB (E : Eng Y) (ren : Nat → Option Nat) (x : Option (Blk Y)) (x' : Blk Y) : Prop :=
  match x, x' with
  | some (.raw cs fz tg), .raw cs' fz' none => sameN fz fz' (leL ren cs cs')
  | some (.rows th l fz), .rows th' l' fz' => castK l (fun l => l = l') ∧ fz = fz'
  | some (.raw cs 0 (some th)), .rows th' l' 0 =>
    (match decAll E th (chunks (E.w th) (cs.length / E.w th) cs), Nat.beq (cs.length / E.w th * E.w th) cs.length with | some l, true => castK l (fun l => l = l') | _, _ => False)
  | _, _ => False
def fitF (ren : Nat → Option Nat) (T : Fr Y) : List (Nat × SV Y) → Prop
  | [] => True
  | (s, v) :: r => le1 ren (T s) v ∧ fitF ren T r
def fitB (E : Eng Y) (ren : Nat → Option Nat) (h : Hp Y) : List (Nat × Blk Y) → Prop
  | [] => True
  | (b, x) :: r => (match ren b with | some c => leB E ren (h c) x | none => False) ∧ fitB E ren h r
/-- the blocks that the head's names stand for: each one once; new names stand for new or changed blocks -/
def renOk (i ih M : Nat) (md : List Nat) (ren : Nat → Option Nat) : List (Nat × Blk Y) → List Nat → Bool
  | [], _ => true
  | (b, _) :: r, seen => Nat.blt b ih && (match ren b with | some c => !(memB c seen) && (Nat.blt b i || (Nat.ble i c && Nat.blt c M) || memB c md) && renOk i ih M md ren r (c :: seen) | none => false)
def srcOk (i ih M : Nat) (md : List Nat) (T : Fr Y) : List (Nat × Nat) → Bool
  | [] => true
  | (b, s) :: r => (Nat.ble i b && Nat.blt b ih) && (match idOf (T s) with | some c => (Nat.ble i c && Nat.blt c M) || memB c md | none => false) && srcOk i ih M md T r
def fits (E : Eng Y) (A : Ann Y) (i : Nat) (T : Fr Y) (h : Hp Y) (x : A.X) : Prop :=
  match renOk i A.ih A.M A.md (renO i T A.src) (A.bl x) [] && srcOk i A.ih A.M A.md T A.src with
  | true => fitF (renO i T A.src) T (A.fr x) ∧ fitB E (renO i T A.src) h (A.bl x)
  | false => False
def mdOk (i : Nat) (h : Hp Y) : List Nat → Bool
  | [] => true
  | b :: r => Nat.blt b i && (match h b with | some _ => true | none => false) && mdOk i h r
def modsIn (i : Nat) (md : List Nat) : List Nat → Bool
  | [] => true
  | b :: r => (Nat.ble i b || memB b md) && modsIn i md r
/-- older blocks of the head are older blocks of the loop's entry -/
def oldOk (i : Nat) (h : Hp Y) : List (Nat × Blk Y) → Bool
  | [] => true
  | (b, _) :: r => (Nat.ble i b || (match h b with | some _ => true | none => false)) && oldOk i h r

def loopL (E : Eng Y) (A : Fr Y → Hp Y → Nat → Ann Y) (V : BodyVc Y) : BodyVc Y := fun T h i ms K =>
  match (Nat.ble i (A T h i).ih && Nat.ble (A T h i).ih (A T h i).M) && mdOk i h (A T h i).md with
  | false => False
  | true => ∃ R : (A T h i).X → Prop, (∃ x, R x ∧ oldOk i h ((A T h i).bl x) = true ∧ fits E (A T h i) i T h x) ∧
      ∀ x, R x → V (frOf ((A T h i).fr x)) (blOf ((A T h i).bl x)) (A T h i).ih [] fun e T' h' i' ms' =>
        (match Nat.ble i' (A T h i).M && modsIn i (A T h i).md ms' with
        | true => (match e with
          | .normal => ∃ x', R x' ∧ (A T h i).meas x' < (A T h i).meas x ∧ oldOk i h ((A T h i).bl x') = true ∧ fits E (A T h i) i T' h' x'
          | e => K e T' h' (A T h i).M ((A T h i).md ++ ms))
        | false => False)

variable {E : Eng Y}

/-- The blocks that a loop may change. -/
def Own (i M : Nat) (md : List Nat) (σ : Pl) (r : Nat) : Prop := ∃ b z, (b ∈ md ∨ (i ≤ b ∧ b < M)) ∧ σ b = some (r, z)
structure StpL (i M : Nat) (md : List Nat) (σ : Pl) (g : GH) (w : World) (σ' : Pl) (g' : GH) (w' : World) : Prop where
  out : ∀ b, b < i ∨ M ≤ b → σ' b = σ b
  gle : g.le g'
  gcnew : ∀ r o v, g'.cell r o = some v → g.cell r o = some v ∨ w.heap.size ≤ r ∨ Own i M md σ r
  gmnew : ∀ r es, g'.obj r = some es → g.obj r = some es ∨ w.heap.size ≤ r
  heap : ∀ r, r < w.heap.size → ¬ Own i M md σ r → w'.heap[r]? = w.heap[r]?
  size : w.heap.size ≤ w'.heap.size
  os : w'.os = w.os
  tape : w'.tape = w.tape
  output : w'.output = w.output
  own : ∀ r, Own i M md σ' r → w.heap.size ≤ r ∨ Own i M md σ r
theorem StpL.trans {i M : Nat} {md : List Nat} {σ σ1 σ2 : Pl} {g g1 g2 : GH} {w w1 w2 : World} (h : StpL i M md σ g w σ1 g1 w1) (k : StpL i M md σ1 g1 w1 σ2 g2 w2) : StpL i M md σ g w σ2 g2 w2 := by
  have back : ∀ r, Own i M md σ1 r → w.heap.size ≤ r ∨ Own i M md σ r := h.own
  refine ⟨fun b hb => (k.out b hb).trans (h.out b hb), h.gle.trans k.gle, ?_, ?_, ?_, Nat.le_trans h.size k.size, k.os.trans h.os, k.tape.trans h.tape, k.output.trans h.output, ?_⟩
  · intro r o v hv
    rcases k.gcnew r o v hv with h1 | h1 | h1
    · exact h.gcnew r o v h1
    · exact .inr (.inl (Nat.le_trans h.size h1))
    · exact .inr (back r h1)
  · intro r es hv
    rcases k.gmnew r es hv with h1 | h1
    · exact h.gmnew r es h1
    · exact .inr (Nat.le_trans h.size h1)
  · intro r hr hn
    rw [k.heap r (Nat.lt_of_lt_of_le hr h.size) (fun ho => by
      rcases back r ho with h1 | h1
      · omega
      · exact hn h1), h.heap r hr hn]
  · intro r ho
    rcases k.own r ho with h1 | h1
    · exact .inl (Nat.le_trans h.size h1)
    · exact back r h1
theorem StpL.of {i ih n M : Nat} {md m : List Nat} {σ σ1 : Pl} {g g1 : GH} {w w1 : World} (h : Stp ih n m σ g w σ1 g1 w1) (h1 : i ≤ ih) (h2 : ih + n ≤ M) (hm : ∀ b ∈ m, b ∈ md ∨ (i ≤ b ∧ b < M)) : StpL i M md σ g w σ1 g1 w1 := by
  have own : ∀ r b z, b ∈ m → σ b = some (r, z) → Own i M md σ r := fun r b z hb hσ => ⟨b, z, hm b hb, hσ⟩
  refine ⟨?_, h.gle, ?_, h.gmnew, ?_, h.size, h.os, h.tape, h.output, ?_⟩
  · intro b hb
    cases hs : σ b with
    | some p => exact h.sig _ _ hs
    | none =>
      cases hs1 : σ1 b with
      | none => rfl
      | some p =>
        rcases h.snew b p hs1 with h3 | h3
        · rw [hs] at h3; cases h3
        · omega
  · intro r o v hv
    rcases h.gcnew r o v hv with h3 | h3 | ⟨b, h3, z, h4⟩
    · exact .inl h3
    · exact .inr (.inl h3)
    · exact .inr (.inr (own r b z h3 h4))
  · exact fun r hr hn => h.heap r hr fun b hb z hσ => hn (own r b z hb hσ)
  · rintro r ⟨b, z, hb, hσ⟩
    cases hs : σ b with
    | some p =>
      have := h.sig _ _ hs
      rw [hσ] at this
      obtain rfl := Option.some.inj this
      exact .inr ⟨b, z, hb, hs⟩
    | none =>
      rcases h.blk b r z hs hσ with h3 | ⟨b', h3, z', h4⟩
      · exact .inl h3
      · exact .inr (own r b' z' h3 h4)
theorem StpL.to {i M : Nat} {md ms : List Nat} {σ σ1 : Pl} {g g1 : GH} {w w1 : World} (h : StpL i M md σ g w σ1 g1 w1) (hiM : i ≤ M) (hfree : ∀ b, i ≤ b → b < M → σ b = none) : Stp i (M - i) (md ++ ms) σ g w σ1 g1 w1 := by
  have own : ∀ r, Own i M md σ r → ∃ b ∈ md ++ ms, ∃ z, σ b = some (r, z) := by
    rintro r ⟨b, z, hb | hb, hσ⟩
    · exact ⟨b, by simp [hb], z, hσ⟩
    · rw [hfree b hb.1 hb.2] at hσ; cases hσ
  refine ⟨?_, ?_, h.gle, ?_, h.gmnew, ?_, h.size, h.os, h.tape, h.output, ?_⟩
  · intro b p hb
    rw [h.out b (by
      rcases Nat.lt_or_ge b i with c | c
      · exact .inl c
      · rcases Nat.lt_or_ge b M with d | d
        · rw [hfree b c d] at hb; cases hb
        · exact .inr d)]
    exact hb
  · intro b p hb
    by_cases c : i ≤ b ∧ b < M
    · right; omega
    · rw [h.out b (by omega)] at hb; exact .inl hb
  · intro r o v hv
    rcases h.gcnew r o v hv with h3 | h3 | h3
    · exact .inl h3
    · exact .inr (.inl h3)
    · exact .inr (.inr (own r h3))
  · exact fun r hr hn => h.heap r hr fun ho => by
      obtain ⟨b, hb, z, hz⟩ := own r ho
      exact hn b hb z hz
  · intro b r z h1 h2
    by_cases c : i ≤ b ∧ b < M
    · rcases h.own r ⟨b, z, .inr c, h2⟩ with h3 | h3
      · exact .inl h3
      · exact .inr (own r h3)
    · rw [h.out b (by omega), h1] at h2; cases h2

def renσ (i M : Nat) (ren : Nat → Option Nat) (σ : Pl) : Pl := fun b => if b < i ∨ M ≤ b then σ b else match ren b with | some c => σ c | none => none
theorem renO_spec {i ih M : Nat} {md : List Nat} {T : Fr Y} : ∀ {src : List (Nat × Nat)}, srcOk i ih M md T src = true →
    (∀ b, b < i → renO i T src b = some b) ∧ ∀ b c, i ≤ b → renO i T src b = some c → b < ih ∧ ((i ≤ c ∧ c < M) ∨ c ∈ md)
  | [], _ => by
    refine ⟨fun b hb => ?_, fun b c hb hc => ?_⟩
    · have : Nat.blt b i = true := by rw [Nat.blt, Nat.ble_eq]; exact hb
      simp [renO, this]
    · have : Nat.blt b i = false := by rw [← Bool.not_eq_true, Nat.blt, Nat.ble_eq]; omega
      simp [renO, this] at hc
  | (b0, s) :: r, h => by
    simp only [srcOk, Bool.and_eq_true] at h
    obtain ⟨⟨⟨k1, k2⟩, k3⟩, k4⟩ := h
    rw [Nat.ble_eq] at k1
    have k2 := blt_lt k2
    obtain ⟨ih1, ih2⟩ := renO_spec k4
    refine ⟨fun b hb => ?_, fun b c hb hc => ?_⟩
    · have : Nat.beq b b0 = false := by rw [← Bool.not_eq_true, Nat.beq_eq]; omega
      simp only [renO, this]; exact ih1 b hb
    · simp only [renO] at hc
      split at hc
      · rename_i e
        have e := Nat.eq_of_beq_eq_true e
        subst e
        rw [hc] at k3
        simp only [Bool.or_eq_true, Bool.and_eq_true, Nat.ble_eq] at k3
        refine ⟨k2, ?_⟩
        rcases k3 with k3 | k3
        · exact .inl ⟨k3.1, blt_lt k3.2⟩
        · exact .inr (memB_iff.1 k3)
      · exact ih2 b c hb hc

theorem leCap_spec {a b : Option Nat} {c : Nat} (h : leCap a b) (hc : ∀ m, a = some m → c = m) : ∀ m, b = some m → c = m := by
  rintro m rfl
  cases a with
  | none => exact h.elim
  | some a => have : a = m := h
              exact this ▸ hc a rfl
theorem le0_den (hE : EngOk E) {ren : Nat → Option Nat} {σ σ' : Pl} {g : GH} (hσ : ∀ b c, ren b = some c → σ' b = σ c) {v v' : SV Y} {u : Value} (hl : le0 ren v v') (hd : Den E σ g v u) : Den E σ' g v' u := by
  have at_ : ∀ {b' b : Nat} {K : Prop}, sameO2 (ren b') b K → σ' b' = σ b ∧ K := by
    intro b' b K h
    unfold sameO2 at h
    split at h
    · rename_i a ha
      obtain ⟨rfl, hK⟩ := sameN_of h
      exact ⟨hσ _ _ ha, hK⟩
    · exact h.elim
  have enc : ∀ {th : Y.Th} {x : Y.dom th} {j : Nat} {sv : SV Y} {u : Value}, (E.enc th x)[j]? = some sv → Den E σ g sv u → Den E σ' g sv u := fun hj hd => den_nid hE (i := 0) hd (fun b p hb => by omega) (nidL_get (hE.encI _ _ _) hj)
  unfold le0 at hl
  split at hl
  · exact .unk _
  · split at hl
    · split at hl
      · rename_i e
        obtain rfl := of_decide_eq_true e
        obtain rfl := hl
        cases hd; exact .int _ _ _
      · exact hl.elim
    · exact hl.elim
  · split at hl
    · obtain rfl := hl; cases hd; exact .bool _ _
    · exact hl.elim
  · split at hl
    · obtain rfl := hl; cases hd; exact .str _ _
    · exact hl.elim
  · split at hl
    · obtain rfl := hl; cases hd; exact .val _
    · exact hl.elim
  · split at hl
    · obtain ⟨e, rfl⟩ := at_ hl
      cases hd
      rename_i hs
      exact .ptr (e.trans hs)
    · exact hl.elim
  · split at hl
    · obtain ⟨e, hl⟩ := at_ hl
      obtain ⟨rfl, rfl, rfl, hc⟩ := sameN_of hl
      obtain ⟨r, z, c, rfl, hs, hz, hle, hm, hcap⟩ := den_sl hd
      refine .sl (e.trans hs) hz hle hm fun q hq => ?_
      exact leCap_spec hc hcap q hq
    · exact hl.elim
  · split at hl
    · obtain ⟨e, _⟩ := at_ hl
      cases hd
      rename_i hs
      exact .map (e.trans hs)
    · exact hl.elim
  · split at hl
    · obtain ⟨hl, hf⟩ := hl
      obtain ⟨e, hl⟩ := castK_of hl
      subst e
      obtain rfl : _ = _ := hl
      obtain ⟨base, c, cv, rfl, h1, h2, h3, h4, h5, h6⟩ := den_psl hd
      exact .psl cv h1 h2 (fun e => h3 (hf e)) h4 h5 fun q x hq j sv hj => enc hj (h6 q x hq j sv hj)
    · obtain rfl : _ = [] := hl
      cases hd
      exact .psl (l := []) (fun _ _ => undef) (Nat.le_refl _) (by unfold maxLen; omega) (fun _ => rfl) (fun _ => rfl) (by simp) (by simp)
    · exact hl.elim
  · split at hl
    · obtain ⟨hl, rfl⟩ := hl
      obtain ⟨e, hl⟩ := castK_of hl
      subst e
      have hl : [_] = [_] := hl
      simp only [List.cons.injEq, and_true] at hl
      subst hl
      cases hd
      rename_i r o c hc hd
      exact .pptr c hc fun j sv hj => enc hj (hd j sv hj)
    · exact hl.elim
  · exact hl.elim
theorem leL_get {ren : Nat → Option Nat} : ∀ {cs cs' : List (SV Y)}, leL ren cs cs' → cs.length = cs'.length ∧ ∀ (j : Nat) sv', cs'[j]? = some sv' → ∃ sv, cs[j]? = some sv ∧ le0 ren sv sv'
  | [], [], _ => ⟨rfl, fun j sv h => by simp at h⟩
  | x :: r, x' :: r', h => by
    obtain ⟨h1, h2⟩ := h
    obtain ⟨k1, k2⟩ := leL_get h2
    refine ⟨by simp [k1], fun j sv' hj => ?_⟩
    cases j with
    | zero => simp at hj; subst hj; exact ⟨x, rfl, h1⟩
    | succ j => exact k2 j sv' (by simpa using hj)
  | [], _ :: _, h => h.elim
  | _ :: _, [], h => h.elim
theorem le1_den (hE : EngOk E) {ren : Nat → Option Nat} {σ σ' : Pl} {g : GH} (hσ : ∀ b c, ren b = some c → σ' b = σ c) {v v' : SV Y} {u : Value} (hl : le1 ren v v') (hd : Den E σ g v u) : Den E σ' g v' u := by
  have lists : ∀ {cs cs' : List (SV Y)} {c : Nat → Value}, leL ren cs cs' → (∀ j sv, cs[j]? = some sv → Den E σ g sv (c j)) → ∀ j sv, cs'[j]? = some sv → Den E σ' g sv (c j) := by
    intro cs cs' c h hd j sv hj
    obtain ⟨sv0, h1, h2⟩ := (leL_get h).2 j sv hj
    exact le0_den hE hσ h2 (hd j sv0 h1)
  unfold le1 at hl
  split at hl
  · obtain ⟨arr, c, rfl, hs, hc, hd⟩ := den_agg hd
    have e := (leL_get hl).1
    exact .agg c (by omega) (fun j hj => hc j (by omega)) (lists hl hd)
  · obtain ⟨arr, c, rfl, hs, hc, hd⟩ := den_tup hd
    have e := (leL_get hl).1
    exact .tup c (by omega) (fun j hj => hc j (by omega)) (lists hl hd)
  · obtain ⟨rfl, h1, h2⟩ := hl
    cases hd
    rename_i ca cb hsa hca hda hsb hcb hdb
    have e1 := (leL_get h1).1
    have e2 := (leL_get h2).1
    exact .fn ca cb (by omega) (fun j hj => hca j (by omega)) (lists h1 hda) (by omega) (fun j hj => hcb j (by omega)) (lists h2 hdb)
  · exact le0_den hE hσ hl hd
theorem fitF_den (hE : EngOk E) {ren : Nat → Option Nat} {σ σ' : Pl} {g : GH} (hσ : ∀ b c, ren b = some c → σ' b = σ c) {T : Fr Y} {a : Act} (hF : FrOk E σ g T a) : ∀ {l : List (Nat × SV Y)}, fitF ren T l → FrOk E σ' g (frOf l) a
  | [], _ => fun t => .unk _
  | (s, v) :: r, h => by
    intro t
    show Den E σ' g (upd (frOf r) s v t) _
    rw [upd_apply]
    by_cases e : t = s
    · rw [if_pos e, e]; exact le1_den hE hσ h.1 (hF s)
    · rw [if_neg e]; exact fitF_den hE hσ hF h.2 t

theorem leB_blk (hE : EngOk E) {ren : Nat → Option Nat} {σ σ' : Pl} {g : GH} {w : World} (hσ : ∀ b c, ren b = some c → σ' b = σ c) {x0 : Option (Blk Y)} {x : Blk Y} {r z : Nat} (hl : leB E ren x0 x) : ∃ y, x0 = some y ∧ x.fzc E = y.fzc E ∧ (BlkOk E σ g w r z y → BlkOk E σ' g w r z x) := by
  have enc : ∀ {th : Y.Th} {x : Y.dom th} {j : Nat} {sv : SV Y} {u : Value}, (E.enc th x)[j]? = some sv → Den E σ g sv u → Den E σ' g sv u := fun hj hd => den_nid hE (i := 0) hd (fun b p hb => by omega) (nidL_get (hE.encI _ _ _) hj)
  unfold leB at hl
  split at hl
  · obtain ⟨ef, hl2⟩ := sameN_of hl
    clear hl
    subst ef
    obtain ⟨e, hg⟩ := leL_get hl2
    refine ⟨_, rfl, rfl, ?_⟩
    rintro ⟨arr, e0, h1, h2, h3, h4, h0⟩
    refine ⟨arr, e0, h1, h2, ?_, ?_, trivial⟩
    · simp only [Blk.cells] at h3 ⊢; omega
    · intro j sv hj
      obtain ⟨sv0, k1, k2⟩ := hg j sv hj
      obtain ⟨v, k3, k4⟩ := h4 j sv0 k1
      exact ⟨v, k3, le0_den hE hσ k2 k4⟩
  · rename_i th l fz th' l' fz'
    obtain ⟨hl, rfl⟩ := hl
    obtain ⟨e, hl⟩ := castK_of hl
    subst e
    have hl : l = l' := hl
    subst hl
    refine ⟨_, rfl, rfl, ?_⟩
    rintro ⟨arr, e0, h1, h2, h3, h4, h0⟩
    refine ⟨arr, e0, h1, h2, h3, ?_, h0⟩
    intro j sv hj
    obtain ⟨v, k3, k4⟩ := h4 j sv hj
    obtain ⟨q, p, y, _, _, _, hs⟩ := flat_inv hE th l hj
    exact ⟨v, k3, enc hs k4⟩
  · rename_i cs th th' l'
    split at hl
    · rename_i l hdec hlen
      have hlen := Nat.eq_of_beq_eq_true hlen
      obtain ⟨e, hl⟩ := castK_of hl
      subst e
      have hl : l = l' := hl
      subst hl
      obtain ⟨d1, d2⟩ := decAll_den hE hdec
      refine ⟨_, rfl, by simp [Blk.fzc], ?_⟩
      rintro ⟨arr, e0, h1, h2, h3, h4, h0⟩
      refine ⟨arr, e0, h1, h2, ?_, ?_, h0⟩
      · simp only [Blk.cells] at h3 ⊢
        rw [flat_len hE, d1]; omega
      · intro j sv hj
        obtain ⟨s0, k1, k2⟩ := d2 j sv hj
        obtain ⟨v, k3, k4⟩ := h4 j s0 k1
        obtain ⟨q, p, y, _, _, _, hs⟩ := flat_inv hE th l hj
        exact ⟨v, k3, enc hs (k2 _ _ _ k4)⟩
    · exact hl.elim
  · exact hl.elim

theorem blOf_mem : ∀ {bl : List (Nat × Blk Y)} {b : Nat} {x : Blk Y}, blOf bl b = some x → (b, x) ∈ bl
  | [], b, x, h => by cases h
  | (b0, x0) :: r, b, x, h => by
    have h : upd (blOf r) b0 (some x0) b = some x := h
    rw [upd_apply] at h
    split at h
    · rename_i e; cases h; simp [e]
    · exact List.mem_cons_of_mem _ (blOf_mem h)
theorem fitB_mem {ren : Nat → Option Nat} {h : Hp Y} : ∀ {bl : List (Nat × Blk Y)}, fitB E ren h bl → ∀ {b : Nat} {x : Blk Y}, (b, x) ∈ bl → ∃ c, ren b = some c ∧ leB E ren (h c) x
  | [], _, b, x, hm => by cases hm
  | (b0, x0) :: r, hf, b, x, hm => by
    obtain ⟨h1, h2⟩ := hf
    rcases List.mem_cons.1 hm with e | hm
    · cases e
      split at h1
      · rename_i c hc; exact ⟨c, hc, h1⟩
      · exact h1.elim
    · exact fitB_mem h2 hm
theorem renOk_mem {i ih M : Nat} {md : List Nat} {ren : Nat → Option Nat} : ∀ {bl : List (Nat × Blk Y)} {seen : List Nat}, renOk i ih M md ren bl seen = true → ∀ {b : Nat} {x : Blk Y}, (b, x) ∈ bl → b < ih ∧ ∃ c, ren b = some c ∧ c ∉ seen
  | [], _, _, b, x, hm => by cases hm
  | (b0, x0) :: r, seen, hk, b, x, hm => by
    simp only [renOk, Bool.and_eq_true] at hk
    obtain ⟨h1, h2⟩ := hk
    split at h2
    · rename_i c hc
      simp only [Bool.and_eq_true, Bool.not_eq_true'] at h2
      rcases List.mem_cons.1 hm with e | hm
      · cases e
        refine ⟨blt_lt h1, c, hc, fun hm => ?_⟩
        have := memB_iff.2 hm
        rw [this] at h2; exact absurd h2.1.1 (by simp)
      · obtain ⟨k1, c', k2, k3⟩ := renOk_mem h2.2 hm
        exact ⟨k1, c', k2, fun h => k3 (List.mem_cons_of_mem _ h)⟩
    · cases h2
theorem renOk_inj {i ih M : Nat} {md : List Nat} {ren : Nat → Option Nat} : ∀ {bl : List (Nat × Blk Y)} {seen : List Nat}, renOk i ih M md ren bl seen = true → ∀ {b b' c : Nat} {x x' : Blk Y}, (b, x) ∈ bl → (b', x') ∈ bl → ren b = some c → ren b' = some c → b = b'
  | [], _, _, b, b', c, x, x', hm, _, _, _ => by cases hm
  | (b0, x0) :: r, seen, hk, b, b', c, x, x', hm, hm', h1, h2 => by
    simp only [renOk, Bool.and_eq_true] at hk
    obtain ⟨_, hk⟩ := hk
    split at hk
    · rename_i c0 hc0
      simp only [Bool.and_eq_true] at hk
      rcases List.mem_cons.1 hm with e | hm <;> rcases List.mem_cons.1 hm' with e' | hm'
      · cases e; cases e'; rfl
      · cases e
        rw [hc0] at h1; cases h1
        obtain ⟨_, c', k2, k3⟩ := renOk_mem hk.2 hm'
        rw [h2] at k2; cases k2
        exact absurd (List.mem_cons_self) k3
      · cases e'
        rw [hc0] at h2; cases h2
        obtain ⟨_, c', k2, k3⟩ := renOk_mem hk.2 hm
        rw [h1] at k2; cases k2
        exact absurd (List.mem_cons_self) k3
      · exact renOk_inj hk.2 hm hm' h1 h2
    · cases hk

theorem inv_fit (hE : EngOk E) {B i ih M : Nat} {md : List Nat} {σ σ' : Pl} {h : Hp Y} {g : GH} {w : World} (hI : Inv E B σ h g w) {ren : Nat → Option Nat} (hσ : ∀ b c, ren b = some c → σ' b = σ c) (hback : ∀ b p, σ' b = some p → ∃ c, σ c = some p) {bl : List (Nat × Blk Y)} (hk : renOk i ih M md ren bl [] = true) (hf : fitB E ren h bl) : Inv E B σ' (blOf bl) g w := by
  have at_ : ∀ b x, blOf bl b = some x → (b, x) ∈ bl ∧ ∃ c y, ren b = some c ∧ h c = some y ∧ σ' b = σ c ∧ x.fzc E = y.fzc E ∧ ∀ r z, BlkOk E σ g w r z y → BlkOk E σ' g w r z x := by
    intro b x hx
    have hm := blOf_mem hx
    obtain ⟨c, h1, h2⟩ := fitB_mem hf hm
    obtain ⟨y, h3, h4, _⟩ := leB_blk (σ := σ) (σ' := σ') (g := g) (w := w) (r := 0) (z := 0) hE hσ h2
    refine ⟨hm, c, y, h1, h3, hσ _ _ h1, h4, fun r z hb => ?_⟩
    obtain ⟨y', h3', _, h5⟩ := leB_blk (σ := σ) (σ' := σ') (g := g) (w := w) (r := r) (z := z) hE hσ h2
    rw [h3] at h3'; cases h3'
    exact h5 hb
  refine ⟨hI.gc, hI.gm, ?_, ?_, ?_, ?_, ?_, hI.glob⟩
  · intro b x hx
    obtain ⟨_, c, y, h1, h2, h3, h4, h5⟩ := at_ b x hx
    obtain ⟨r, z, k1, k2⟩ := hI.blk c y h2
    exact ⟨r, z, h3.trans k1, h5 r z k2⟩
  · intro b b' r z z' n1 n2 s1 s2
    obtain ⟨x, hx⟩ := Option.ne_none_iff_exists'.1 n1
    obtain ⟨x', hx'⟩ := Option.ne_none_iff_exists'.1 n2
    obtain ⟨m1, c, y, h1, h2, h3, _⟩ := at_ b x hx
    obtain ⟨m2, c', y', k1, k2, k3, _⟩ := at_ b' x' hx'
    have e : c = c' := hI.inj c c' r z z' (by rw [h2]; simp) (by rw [k2]; simp) (h3 ▸ s1) (k3 ▸ s2)
    subst e
    exact renOk_inj hk m1 m2 h1 k1
  · intro b r z hs
    obtain ⟨c, hc⟩ := hback b _ hs
    exact hI.base c r z hc
  · intro b x r z o v hx hs hv
    obtain ⟨_, c, y, h1, h2, h3, h4, h5⟩ := at_ b x hx
    rw [h4]
    exact hI.fz c y r z o v h2 (h3 ▸ hs) hv
  · intro b x r z hx hs
    obtain ⟨_, c, y, h1, h2, h3, h4, h5⟩ := at_ b x hx
    exact hI.fm c y r z h2 (h3 ▸ hs)

/-- what a state that fits gives -/
theorem fits_ok (hE : EngOk E) {A : Ann Y} {i : Nat} {T : Fr Y} {h : Hp Y} {x : A.X} (hi : i ≤ A.ih) (hM : A.ih ≤ A.M) (hf : fits E A i T h x) {B : Nat} {σ : Pl} {g : GH} {w : World} {a : Act} (hI : Inv E B σ h g w) (hF : FrOk E σ g T a) :
    ∃ σ', StpL i A.M A.md σ g w σ' g w ∧ Inv E B σ' (blOf (A.bl x)) g w ∧ FrOk E σ' g (frOf (A.fr x)) a ∧ (∀ b, A.ih ≤ b → b < A.M → σ' b = none) := by
  unfold fits at hf
  split at hf
  · rename_i hk
    rw [Bool.and_eq_true] at hk
    obtain ⟨hk1, hk2⟩ := hk
    obtain ⟨hf1, hf2⟩ := hf
    obtain ⟨r1, r2⟩ := renO_spec hk2
    have hσ : ∀ b c, renO i T A.src b = some c → renσ i A.M (renO i T A.src) σ b = σ c := by
      intro b c hc
      unfold renσ
      by_cases e : b < i
      · rw [if_pos (.inl e)]
        rw [r1 b e] at hc; cases hc; rfl
      · have := (r2 b c (by omega) hc).1
        rw [if_neg (by omega), hc]
    have hout : ∀ b, b < i ∨ A.M ≤ b → renσ i A.M (renO i T A.src) σ b = σ b := fun b hb => by unfold renσ; rw [if_pos hb]
    have hin : ∀ b p, i ≤ b → b < A.M → renσ i A.M (renO i T A.src) σ b = some p → ∃ c, b < A.ih ∧ ((i ≤ c ∧ c < A.M) ∨ c ∈ A.md) ∧ σ c = some p := by
      intro b p h1 h2 hp
      unfold renσ at hp
      rw [if_neg (by omega)] at hp
      split at hp
      · rename_i c hc
        obtain ⟨k1, k2⟩ := r2 b c h1 hc
        exact ⟨c, k1, k2, hp⟩
      · cases hp
    refine ⟨renσ i A.M (renO i T A.src) σ, ⟨hout, .refl _, fun _ _ _ h => .inl h, fun _ _ h => .inl h, fun _ _ _ => rfl, Nat.le_refl _, rfl, rfl, rfl, ?_⟩, inv_fit hE hI hσ ?_ hk1 hf2, fitF_den hE hσ hF hf1, ?_⟩
    · rintro r ⟨b, z, hb, hs⟩
      right
      by_cases c : i ≤ b ∧ b < A.M
      · obtain ⟨c', _, k2, k3⟩ := hin b _ c.1 c.2 hs
        exact ⟨c', z, k2.symm, k3⟩
      · rw [hout b (by omega)] at hs
        exact ⟨b, z, hb, hs⟩
    · intro b p hp
      by_cases c : i ≤ b ∧ b < A.M
      · obtain ⟨c', _, _, k3⟩ := hin b _ c.1 c.2 hp
        exact ⟨c', k3⟩
      · rw [hout b (by omega)] at hp
        exact ⟨b, hp⟩
    · intro b h1 h2
      cases hq : renσ i A.M (renO i T A.src) σ b with
      | none => rfl
      | some p =>
        obtain ⟨c, k1, _⟩ := hin b p (by omega) h2 hq
        omega
  · exact hf.elim

theorem mdOk_mem {i : Nat} {h : Hp Y} : ∀ {md : List Nat}, mdOk i h md = true → ∀ {b : Nat}, b ∈ md → b < i ∧ h b ≠ none
  | [], _, b, hb => by cases hb
  | x :: r, hk, b, hb => by
    simp only [mdOk, Bool.and_eq_true] at hk
    rcases List.mem_cons.1 hb with rfl | hb
    · refine ⟨blt_lt hk.1.1, fun e => ?_⟩
      rw [e] at hk; simp at hk
    · exact mdOk_mem hk.2 hb
theorem modsIn_mem {i : Nat} {md : List Nat} : ∀ {ms : List Nat}, modsIn i md ms = true → ∀ {b : Nat}, b ∈ ms → i ≤ b ∨ b ∈ md
  | [], _, b, hb => by cases hb
  | x :: r, hk, b, hb => by
    simp only [modsIn, Bool.and_eq_true, Bool.or_eq_true, Nat.ble_eq] at hk
    rcases List.mem_cons.1 hb with rfl | hb
    · exact hk.1.imp id memB_iff.1
    · exact modsIn_mem hk.2 hb
theorem oldOk_mem {i : Nat} {h : Hp Y} : ∀ {bl : List (Nat × Blk Y)}, oldOk i h bl = true → ∀ {b : Nat} {x : Blk Y}, (b, x) ∈ bl → i ≤ b ∨ h b ≠ none
  | [], _, b, x, hb => by cases hb
  | (b0, x0) :: r, hk, b, x, hb => by
    simp only [oldOk, Bool.and_eq_true, Bool.or_eq_true, Nat.ble_eq] at hk
    rcases List.mem_cons.1 hb with e | hb
    · cases e
      refine hk.1.imp id fun h1 e => ?_
      rw [e] at h1; cases h1
    · exact oldOk_mem hk.2 hb
theorem fits_keys {A : Ann Y} {i : Nat} {T : Fr Y} {h : Hp Y} {x : A.X} (hf : fits E A i T h x) : DomLt (blOf (A.bl x)) A.ih := by
  unfold fits at hf
  split at hf
  · rename_i hk
    rw [Bool.and_eq_true] at hk
    intro b hb
    obtain ⟨y, hy⟩ := Option.ne_none_iff_exists'.1 hb
    exact (renOk_mem hk.1 (blOf_mem hy)).1
  · exact hf.elim

/-- what the rounds from a head do -/
def LoopTri (E : Eng Y) (N i M : Nat) (md : List Nat) (ih : Nat) (c : Code) (T : Fr Y) (h : Hp Y) (e : Exit) (T' : Fr Y) (h' : Hp Y) : Prop :=
  ∃ n, ∀ (B : Nat) (σ : Pl) (g : GH) (w : World) (a : Act) (Q : Exit → Act → World → Prop), Inv E B σ h g w → B ≤ w.heap.size → (∀ b, ih ≤ b → b < M → σ b = none) → FrOk E σ g T a → a.tmps.size = N →
    (∀ a' w', (a'.defers = a.defers ∧ a'.tmps.size = N ∧ ∃ σ' g', StpL i M md σ g w σ' g' w' ∧ Inv E B σ' h' g' w' ∧ FrOk E σ' g' T' a') → Q e a' w') → Code.rounds E.P c Q n a w

theorem loopL_ok (hE : EngOk E) (A0 : Fr Y → Hp Y → Nat → Ann Y) : LoopOk E (loopL E A0) := by
  intro N c V hV T h i ms K hD hk
  unfold loopL at hk
  split at hk
  · exact hk.elim
  · rename_i hchk
    generalize A0 T h i = A at hk hchk
    simp only [Bool.and_eq_true, Nat.ble_eq] at hchk
    obtain ⟨⟨hi, hM⟩, hmd⟩ := hchk
    obtain ⟨R, ⟨x0, hR0, hold0, hfit0⟩, hstep⟩ := hk
    -- the rounds
    have main : ∀ (n : Nat) (x : A.X), A.meas x < n → R x → oldOk i h (A.bl x) = true → DomLt (blOf (A.bl x)) A.ih →
        ∃ e T' h', K e T' h' A.M (A.md ++ ms) ∧ Dom h i h' A.M ∧ LoopTri E N i A.M A.md A.ih c (frOf (A.fr x)) (blOf (A.bl x)) e T' h' := by
      intro n
      induction n with
      | zero => intro x hx; omega
      | succ n ihn =>
        intro x hx hR hold hdom
        obtain ⟨e, T1, h1, i1, ms1, hK, hi1, hD1, ⟨m, hm, hM1⟩, t1⟩ := hV _ _ _ [] _ hdom (hstep x hR)
        rw [List.append_nil] at hm
        subst hm
        split at hK
        · rename_i hc2
          rw [Bool.and_eq_true, Nat.ble_eq] at hc2
          obtain ⟨hiM, hmi⟩ := hc2
          have hmods : ∀ b ∈ ms1, b ∈ A.md ∨ (i ≤ b ∧ b < A.M) := by
            intro b hb
            rcases modsIn_mem hmi hb with h2 | h2
            · refine .inr ⟨h2, ?_⟩
              rcases hM1 b hb with h3 | h3
              · have := hdom b h3; omega
              · omega
            · exact .inl h2
          -- one round
          have one : ∀ (B : Nat) (σ : Pl) (g : GH) (w : World) (a : Act) (Q : Exit → Act → World → Prop), Inv E B σ (blOf (A.bl x)) g w → B ≤ w.heap.size → (∀ b, A.ih ≤ b → b < A.M → σ b = none) → FrOk E σ g (frOf (A.fr x)) a → a.tmps.size = N →
              (∀ a' w', (a'.defers = a.defers ∧ a'.tmps.size = N ∧ ∃ σ' g', StpL i A.M A.md σ g w σ' g' w' ∧ Inv E B σ' h1 g' w' ∧ FrOk E σ' g' T1 a') → Q e a' w') → c.wp E.P Q a w := by
            intro B σ g w a Q hI hB hfree hF hN hQ
            refine t1 B σ g w a Q hI hB (fun b k1 k2 => hfree b k1 (by omega)) hF hN ?_
            rintro a' w' ⟨k1, k2, σ', g', k3, k4, k5⟩
            exact hQ a' w' ⟨k1, k2, σ', g', StpL.of k3 hi (by omega) hmods, k4, k5⟩
          rcases exit_ne hK with ⟨rfl, hK⟩ | ⟨he, hK⟩
          · obtain ⟨x', hR', hlt, hold', hfit'⟩ := hK
            obtain ⟨e2, T2, h2, hK2, hD2, n2, t2⟩ := ihn x' (by omega) hR' hold' (fits_keys hfit')
            refine ⟨e2, T2, h2, hK2, hD2, n2 + 1, fun B σ g w a Q hI hB hfree hF hN hQ => ?_⟩
            rw [rounds_succ]
            refine one B σ g w a _ hI hB hfree hF hN ?_
            rintro a1 w1 ⟨k1, k2, σ1, g1, k3, k4, k5⟩
            obtain ⟨σ2, l1, l2, l3, l4⟩ := fits_ok hE hi hM hfit' k4 k5
            refine t2 B σ2 g1 w1 a1 Q l2 (Nat.le_trans hB k3.size) l4 l3 k2 ?_
            rintro a' w' ⟨q1, q2, σ', g', q3, q4, q5⟩
            exact hQ a' w' ⟨q1.trans k1, q2, σ', g', (k3.trans l1).trans q3, q4, q5⟩
          · refine ⟨e, T1, h1, hK, ⟨fun b hb => Nat.lt_of_lt_of_le (hD1.1 b hb) hiM, fun b hb => ?_⟩, 1, fun B σ g w a Q hI hB hfree hF hN hQ => ?_⟩
            · rcases hD1.2 b hb with k | k
              · obtain ⟨y, hy⟩ := Option.ne_none_iff_exists'.1 k
                exact (oldOk_mem hold (blOf_mem hy)).symm
              · right; omega
            · rw [rounds_succ]
              refine one B σ g w a _ hI hB hfree hF hN ?_
              intro a1 w1 hA
              have := hQ a1 w1 hA
              cases e <;> first | exact this | exact absurd rfl he
        · exact hK.elim
    obtain ⟨e, T', h', hK, hDo, nr, t⟩ := main (A.meas x0 + 1) x0 (by omega) hR0 hold0 (fits_keys hfit0)
    refine ⟨e, T', h', A.M, A.md ++ ms, hK, by omega, hDo, ⟨A.md, rfl, fun b hb => .inl (mdOk_mem hmd hb).2⟩, ?_⟩
    intro B σ g w a Q hI hB hfree hF hN hQ
    refine wp_loop_rounds nr ?_
    obtain ⟨σ2, l1, l2, l3, l4⟩ := fits_ok hE hi hM hfit0 hI hF
    refine t B σ2 g w a Q l2 hB l4 l3 hN ?_
    rintro a' w' ⟨q1, q2, σ', g', q3, q4, q5⟩
    exact hQ a' w' ⟨q1, q2, σ', g', (l1.trans q3).to (by omega) hfree, q4, q5⟩
end
end Go.Proofs.YtcaomfbcchemnaaDoor
