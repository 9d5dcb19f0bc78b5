/- A symbolic executor, part K: statements, code and calls. -/
import Derived.Test.YtcaomfbcchemnaaDoorEngJ
namespace Go.Proofs.YtcaomfbcchemnaaDoor
open Go.RowKit
set_option linter.unusedVariables false

section
variable {Y : Thy} {E : Eng Y} {F : Fns Y}

def DomLt (h : Hp Y) (i : Nat) : Prop := ∀ b, h b ≠ none → b < i
/-- what lies in memory behind lay in it before, or is new -/
def Dom (h : Hp Y) (i : Nat) (h' : Hp Y) (i' : Nat) : Prop := DomLt h' i' ∧ ∀ b, h' b ≠ none → h b ≠ none ∨ i ≤ b
/-- what was changed lay in memory before, or is new -/
def ModsOk (h : Hp Y) (i i' : Nat) (m : List Nat) : Prop := ∀ b ∈ m, h b ≠ none ∨ (i ≤ b ∧ b < i')

theorem memB_iff {b : Nat} : ∀ {l : List Nat}, memB b l = true ↔ b ∈ l
  | [] => by simp [memB]
  | x :: l => by
    simp only [memB]
    by_cases e : b = x
    · subst e; simp
    · have : Nat.beq b x = false := by rw [← Bool.not_eq_true, Nat.beq_eq]; exact e
      rw [this]; simp only [memB_iff (l := l)]; simp [e]
theorem inNew_iff {b i n : Nat} : (Nat.ble i b && Nat.blt b (i + n)) = true ↔ i ≤ b ∧ b < i + n := by
  rw [Bool.and_eq_true, Nat.ble_eq, Nat.blt, Nat.ble_eq]; omega
theorem patch_eq (h : Hp Y) (i : Nat) (r : Res Y) (b : Nat) : patch h i r b = if b ∈ r.mods ∨ (i ≤ b ∧ b < i + r.n) then r.h b else h b := by
  unfold patch
  by_cases c : b ∈ r.mods ∨ (i ≤ b ∧ b < i + r.n)
  · rw [if_pos c]
    have : (memB b r.mods || (Nat.ble i b && Nat.blt b (i + r.n))) = true := by
      rw [Bool.or_eq_true, memB_iff, inNew_iff]; exact c
    rw [this]
  · rw [if_neg c]
    have : (memB b r.mods || (Nat.ble i b && Nat.blt b (i + r.n))) = false := by
      rw [← Bool.not_eq_true, Bool.or_eq_true, memB_iff, inNew_iff]; exact c
    rw [this]
theorem DomLt.patch {h : Hp Y} {i : Nat} {r : Res Y} (hd : DomLt h i) (hr : ROk h r) : DomLt (patch h i r) (i + r.n) := by
  intro b hb
  rw [patch_eq] at hb
  split at hb
  · rename_i c
    rcases c with c | c
    · have := hd b (hr b c); omega
    · exact c.2
  · have := hd b hb; omega

/-- A call does what the symbolic result says. -/
def CallTri (E : Eng Y) (f : FuncId) (args : List (SV Y)) (h : Hp Y) (i : Nat) (r : Res Y) : Prop :=
  ∀ (B : Nat) (σ : Pl) (g : GH) (w : World) (vals : Array Value) (hh : Hp Y), (∀ b, Rd r b → hh b = h b) → Inv E B σ hh g w → B ≤ w.heap.size → (∀ b, i ≤ b → b < i + r.n → σ b = none) → DenL E σ g args vals.toList →
    Calls E.P f vals w fun en w' => ∃ u, en = .returned u ∧ ∃ σ' g', Stp i r.n r.mods σ g w σ' g' w' ∧ Inv E B σ' (patch hh i r) g' w' ∧ Den E σ' g' r.v u
def CallOk (E : Eng Y) (call : Nat → List (SV Y) → Hp Y → Nat → (Res Y → Prop) → Prop) : Prop := ∀ f args h i k, DomLt h i → call f args h i k → ∃ r, k r ∧ ROk h r ∧ CallTri E f args h i r

def FrOk (E : Eng Y) (σ : Pl) (g : GH) (T : Fr Y) (a : Act) : Prop := ∀ t, Den E σ g (T t) (a.eval (.tmp t))

theorem Stp.trans {i n1 n2 : Nat} {m1 m2 : List Nat} {σ σ1 σ2 : Pl} {g g1 g2 : GH} {w w1 w2 : World} (h : Stp i n1 m1 σ g w σ1 g1 w1) (k : Stp (i + n1) n2 m2 σ1 g1 w1 σ2 g2 w2) : Stp i (n1 + n2) (m2 ++ m1) σ g w σ2 g2 w2 := by
  have back : ∀ b ∈ m2, ∀ r z, σ1 b = some (r, z) → w.heap.size ≤ r ∨ ∃ b' ∈ m2 ++ m1, ∃ z', σ b' = some (r, z') := by
    intro b hb r z hσ
    cases hs : σ b with
    | none =>
      rcases h.blk b r z hs hσ with h1 | ⟨b', h1, z', h2⟩
      · exact .inl h1
      · exact .inr ⟨b', by simp [h1], z', h2⟩
    | some p =>
      have := h.sig _ _ hs
      rw [hσ] at this
      obtain rfl := Option.some.inj this
      exact .inr ⟨b, by simp [hb], z, hs⟩
  refine ⟨h.sig.trans k.sig, ?_, h.gle.trans k.gle, ?_, ?_, ?_, Nat.le_trans h.size k.size, k.os.trans h.os, k.tape.trans h.tape, k.output.trans h.output, ?_⟩
  · intro b p hb
    rcases k.snew b p hb with h1 | h1
    · rcases h.snew b p h1 with h2 | h2
      · exact .inl h2
      · right; omega
    · right; omega
  · intro r o v hv
    rcases k.gcnew r o v hv with h1 | h1 | ⟨b, h1, z, h2⟩
    · rcases h.gcnew r o v h1 with h2 | h2 | ⟨b, h2, z, h3⟩
      · exact .inl h2
      · exact .inr (.inl h2)
      · exact .inr (.inr ⟨b, by simp [h2], z, h3⟩)
    · exact .inr (.inl (Nat.le_trans h.size h1))
    · exact .inr (back b h1 r z h2)
  · intro r es hv
    rcases k.gmnew r es hv with h1 | h1
    · exact h.gmnew r es h1
    · exact .inr (Nat.le_trans h.size h1)
  · intro r hr hm
    rw [k.heap r (Nat.lt_of_lt_of_le hr h.size) (fun b hb z hσ => ?_), h.heap r hr fun b hb z => hm b (by simp [hb]) z]
    rcases back b hb r z hσ with h1 | ⟨b', h1, z', h2⟩
    · omega
    · exact hm b' h1 z' h2
  · intro b r z h1 h2
    cases hs : σ1 b with
    | none =>
      rcases k.blk b r z hs h2 with h3 | ⟨b', h3, z', h4⟩
      · exact .inl (Nat.le_trans h.size h3)
      · exact back b' h3 r z' h4
    | some p =>
      have := k.sig _ _ hs
      rw [h2] at this
      obtain rfl := Option.some.inj this
      rcases h.blk b r z h1 hs with h3 | ⟨b', h3, z', h4⟩
      · exact .inl h3
      · exact .inr ⟨b', by simp [h3], z', h4⟩
theorem Stp.weaken {i n : Nat} {m m' : List Nat} {σ σ1 : Pl} {g g1 : GH} {w w1 : World} (h : Stp i n m σ g w σ1 g1 w1) (hm : ∀ b ∈ m, b ∈ m') : Stp i n m' σ g w σ1 g1 w1 :=
  ⟨h.sig, h.snew, h.gle, fun r o v hv => (h.gcnew r o v hv).imp id (Or.imp id fun ⟨b, h1, z, h2⟩ => ⟨b, hm b h1, z, h2⟩), h.gmnew, fun r hr hx => h.heap r hr fun b hb => hx b (hm b hb), h.size, h.os, h.tape, h.output, fun b r z h1 h2 => (h.blk b r z h1 h2).imp id fun ⟨b', h1, z', h2⟩ => ⟨b', hm b' h1, z', h2⟩⟩

theorem FrOk.mono {σ σ' : Pl} {g g' : GH} {T : Fr Y} {a : Act} (h : FrOk E σ g T a) (hσ : Pl.le σ σ') (hg : g.le g') : FrOk E σ' g' T a := fun t => (h t).mono hσ hg
theorem FrOk.ev {σ : Pl} {g : GH} {T : Fr Y} {a : Act} (h : FrOk E σ g T a) (x : Operand) : Den E σ g (ev T x) (a.eval x) := by
  cases x with
  | tmp t => exact h t
  | const v => exact den_ofVal E σ g v
  | global n => exact .val _
  | func f => exact .fn (fun _ => undef) (fun _ => undef) rfl (fun j hj => by simp at hj) (fun j sv hj => by simp at hj) rfl (fun j hj => by simp at hj) (fun j sv hj => by simp at hj)
theorem put_eval (a : Act) (d : Option Nat) (u : Value) (t : Nat) : (a.put d u).eval (.tmp t) = if d = some t ∧ t < a.tmps.size then u else a.eval (.tmp t) := by
  cases d with
  | none => simp [Act.put]
  | some d =>
    show (a.tmps.setIfInBounds d u).getD t undef = _
    rw [Array.getD_eq_getD_getElem?, Array.getElem?_setIfInBounds]
    by_cases h : d = t
    · subst h
      by_cases h2 : d < a.tmps.size
      · simp [h2]
      · simp only [if_true, h2, if_false, Option.getD_none, and_false]
        show undef = a.tmps.getD d undef
        rw [Array.getD_eq_getD_getElem?, Array.getElem?_eq_none (by omega)]; rfl
    · rw [if_neg h, if_neg (by simp [h])]
      show _ = a.tmps.getD t undef
      rw [Array.getD_eq_getD_getElem?]
theorem FrOk.put {σ : Pl} {g : GH} {T : Fr Y} {a : Act} (h : FrOk E σ g T a) {d : Nat} {sv : SV Y} {u : Value} (hd : d < a.tmps.size) (hu : Den E σ g sv u) : FrOk E σ g (upd T d sv) (a.put (some d) u) := by
  intro t
  rw [put_eval, upd_apply]
  by_cases e : t = d
  · subst e; rw [if_pos rfl, if_pos ⟨rfl, hd⟩]; exact hu
  · rw [if_neg e, if_neg (by rintro ⟨h1, _⟩; exact e (Option.some.inj h1).symm)]; exact h t
theorem FrOk.skip {σ : Pl} {g : GH} {T : Fr Y} {a : Act} (h : FrOk E σ g T a) (d : Nat) (u : Value) : FrOk E σ g (upd T d .unk) (a.put (some d) u) := by
  intro t
  rw [put_eval, upd_apply]
  by_cases e : t = d
  · subst e; rw [if_pos rfl]; exact .unk _
  · rw [if_neg e, if_neg (by rintro ⟨h1, _⟩; exact e (Option.some.inj h1).symm)]; exact h t
theorem FrOk.skipU {σ : Pl} {g : GH} {T : Fr Y} {a : Act} (h : FrOk E σ g T a) (d : Nat) : FrOk E σ g (upd T d (.val undef)) (a.put (some d) undef) := by
  intro t
  rw [upd_apply, put_eval]
  by_cases e : t = d
  · subst e
    rw [if_pos rfl]
    split
    · exact .val _
    · rename_i hn
      have : a.eval (.tmp t) = undef := by
        have : ¬ t < a.tmps.size := fun hh => hn ⟨rfl, hh⟩
        show a.tmps.getD t undef = undef
        rw [Array.getD_eq_getD_getElem?, Array.getElem?_eq_none (by omega)]
        rfl
      rw [this]; exact .val _
  · rw [if_neg e, if_neg (by rintro ⟨h1, _⟩; exact e (Option.some.inj h1).symm)]
    exact h t
theorem put_size {a : Act} {d : Option Nat} {u : Value} : (a.put d u).tmps.size = a.tmps.size := by cases d <;> simp [Act.put]
theorem put_defers {a : Act} {d : Option Nat} {u : Value} : (a.put d u).defers = a.defers := by cases d <;> rfl

/-- what a piece of execution does -/
structure Aft (E : Eng Y) (B N i i' : Nat) (ms : List Nat) (σ : Pl) (g : GH) (w : World) (df : List Deferred) (T' : Fr Y) (h' : Hp Y) (a' : Act) (w' : World) : Prop where
  df : a'.defers = df
  sz : a'.tmps.size = N
  ex : ∃ σ' g', Stp i (i' - i) ms σ g w σ' g' w' ∧ Inv E B σ' h' g' w' ∧ FrOk E σ' g' T' a'

theorem keepMs_eq {h' : Hp Y} : ∀ {m : List Nat} {h : Hp Y} {k : Hp Y → Prop}, keepMs h' m h k ↔ k (fun b => if b ∈ m then h' b else h b)
  | [], h, k => by simp [keepMs]
  | b :: m, h, k => by
    simp only [keepMs, forceN_eq, forceBlk_eq]
    rw [keepMs_eq (m := m)]
    have : (fun j => if j ∈ m then h' j else upd h b (h' b) j) = fun j => if j ∈ b :: m then h' j else h j := by
      funext j
      rw [upd_apply]
      by_cases c : j ∈ m
      · rw [if_pos c, if_pos (by simp [c])]
      · rw [if_neg c]
        by_cases e : j = b
        · rw [if_pos e, if_pos (by simp [e]), e]
        · rw [if_neg e, if_neg (by simp [c, e])]
    rw [this]
theorem newIds_iff {rh : Hp Y} {m : List Nat} {b : Nat} : ∀ {n i : Nat}, b ∈ newIds rh m i n ↔ b ∈ m ∨ (i ≤ b ∧ b < i + n ∧ rh b ≠ none)
  | 0, i => by simp [newIds]; omega
  | n + 1, i => by
    simp only [newIds]
    split
    · rename_i x hx
      rw [List.mem_cons, newIds_iff (n := n)]
      constructor
      · rintro (rfl | h | h)
        · exact .inr ⟨Nat.le_refl _, by omega, by rw [hx]; simp⟩
        · exact .inl h
        · exact .inr ⟨by omega, by omega, h.2.2⟩
      · rintro (h | h)
        · exact .inr (.inl h)
        · by_cases e : b = i
          · exact .inl e
          · exact .inr (.inr ⟨by omega, by omega, h.2.2⟩)
    · rename_i hx
      rw [newIds_iff (n := n)]
      constructor
      · rintro (h | h)
        · exact .inl h
        · exact .inr ⟨by omega, by omega, h.2.2⟩
      · rintro (h | h)
        · exact .inl h
        · refine .inr ⟨?_, by omega, h.2.2⟩
          rcases Nat.lt_or_ge i b with e | e
          · exact e
          · have : b = i := by omega
            subst this
            exact absurd hx h.2.2
theorem keepM_ok {r : Res Y} {h : Hp Y} {i : Nat} {ms : List Nat} {k : Hp Y → Nat → List Nat → Prop} (hD : DomLt h i) (hk : keepM r h i ms k) : k (patch h i r) (i + r.n) (r.mods ++ ms) := by
  obtain ⟨v, n, mods, rh, rd⟩ := r
  unfold keepM at hk
  simp only at hk
  split at hk
  · have e : patch h i ⟨v, 0, mods, rh, rd⟩ = fun b => if b ∈ mods then rh b else h b := by
      funext j
      rw [patch_eq]
      by_cases c : j ∈ mods
      · rw [if_pos (.inl c), if_pos c]
      · rw [if_neg (by rintro (e | e); · exact c e
                       · simp at e; omega), if_neg c]
    split at hk
    · have e2 : patch h i ⟨v, 0, [], rh, rd⟩ = h := by rw [e]; funext j; simp
      rw [e2]; exact hk
    · rw [keepMs_eq] at hk
      rw [e]; exact hk
  · rw [forceN_eq, keepMs_eq] at hk
    have : patch h i ⟨v, n, mods, rh, rd⟩ = fun b => if b ∈ newIds rh mods i n then rh b else h b := by
      funext j
      rw [patch_eq]
      by_cases c : j ∈ newIds rh mods i n
      · rw [if_pos c]
        rw [newIds_iff] at c
        rw [if_pos (by rcases c with c | c; · exact .inl c
                       · exact .inr ⟨c.1, c.2.1⟩)]
      · rw [if_neg c]
        rw [newIds_iff] at c
        by_cases e : j ∈ mods ∨ (i ≤ j ∧ j < i + n)
        · rw [if_pos e]
          have h1 : i ≤ j ∧ j < i + n := by
            rcases e with e | e
            · exact absurd (.inl e) c
            · exact e
          have h2 : rh j = none := by
            cases hq : rh j with
            | none => rfl
            | some x => exact absurd (.inr ⟨h1.1, h1.2, by rw [hq]; simp⟩) c
          have h3 : h j = none := by
            cases hq : h j with
            | none => rfl
            | some x => have := hD j (by rw [hq]; simp); omega
          show rh j = h j
          rw [h2, h3]
        · rw [if_neg e]
    rw [this]; exact hk

theorem keep_ok {N : Nat} {d : Option Nat} {r : Res Y} {T : Fr Y} {h : Hp Y} {i : Nat} {ms : List Nat} {k : Fr Y → Hp Y → Nat → List Nat → Prop} (hD : DomLt h i) (hk : keep N d r T h i ms k) : ∃ T', k T' (patch h i r) (i + r.n) (r.mods ++ ms) ∧
    ∀ σ g a u, FrOk E σ g T a → a.tmps.size = N → Den E σ g r.v u → FrOk E σ g T' (a.put d u) := by
  unfold keep at hk
  split at hk
  · exact ⟨T, keepM_ok hD hk, fun σ g a u h1 _ _ => h1⟩
  · rename_i d
    split at hk
    · rename_i hd
      rw [force_eq] at hk
      exact ⟨_, keepM_ok hD hk, fun σ g a u h1 hN h2 => h1.put (by rw [hN]; exact blt_lt hd) h2⟩
    · exact hk.elim

def RgnTri (E : Eng Y) (N : Nat) (all : Array Oper) (ops : List Oper) (T : Fr Y) (h : Hp Y) (i : Nat) (T' : Fr Y) (h' : Hp Y) (i' : Nat) (ms' : List Nat) : Prop :=
  ∀ (B : Nat) (σ : Pl) (g : GH) (w : World) (a : Act) (Q : Exit → Act → World → Prop), Inv E B σ h g w → B ≤ w.heap.size → (∀ b, i ≤ b → b < i' → σ b = none) → FrOk E σ g T a → a.tmps.size = N →
    (∀ a' w', Aft E B N i i' ms' σ g w a.defers T' h' a' w' → Q .normal a' w') → wpList E.P all Q ops a w

theorem rgn_ok (hE : EngOk E) {N : Nat} {call : Nat → List (SV Y) → Hp Y → Nat → (Res Y → Prop) → Prop} (hstep : ∀ (o : Oper) T h i k, DomLt h i → step E call o.op T h i k → ∃ r, k r ∧ OpTri E o T h i r) (all : List Oper) :
    ∀ (ops : List Oper) (T : Fr Y) (h : Hp Y) (i : Nat) (ms : List Nat) (k : Fr Y → Hp Y → Nat → List Nat → Prop), DomLt h i → rgn E N call all ops T h i ms k →
      ∃ T' h' i' ms', k T' h' i' ms' ∧ i ≤ i' ∧ Dom h i h' i' ∧ (∃ m, ms' = m ++ ms ∧ ModsOk h i i' m) ∧ RgnTri E N all.toArray ops T h i T' h' i' ms' := by
  intro ops
  induction ops with
  | nil =>
    intro T h i ms k hD hk
    refine ⟨T, h, i, ms, hk, Nat.le_refl _, ⟨hD, fun b hb => .inl hb⟩, ⟨[], rfl, fun b hb => by simp at hb⟩, fun B σ g w a Q hI hB _ hF hN hQ => ?_⟩
    exact hQ a w ⟨rfl, hN, σ, g, by rw [Nat.sub_self]; exact (Stp.refl i σ g w).weaken (by simp), hI, hF⟩
  | cons o ops ih =>
    intro T h i ms k hD hk
    -- one operation that runs
    have run : ∀ (T : Fr Y), step E call o.op T h i (fun res => keep N o.dst res T h i ms fun T h i ms => rgn E N call all ops T h i ms k) →
        ∃ T' h' i' ms', k T' h' i' ms' ∧ i ≤ i' ∧ Dom h i h' i' ∧ (∃ m, ms' = m ++ ms ∧ ModsOk h i i' m) ∧ ∀ (B : Nat) (σ : Pl) (g : GH) (w : World) (a : Act) (Q : Exit → Act → World → Prop), Inv E B σ h g w → B ≤ w.heap.size → (∀ b, i ≤ b → b < i' → σ b = none) → FrOk E σ g T a → a.tmps.size = N →
          (∀ a' w', Aft E B N i i' ms' σ g w a.defers T' h' a' w' → Q .normal a' w') → o.wp E.P a w (wpList E.P all.toArray Q ops) Q := by
      intro T hk
      obtain ⟨r, hk, hR, htri⟩ := hstep o T h i _ hD hk
      obtain ⟨T1, hk, hfr⟩ := keep_ok (E := E) hD hk
      obtain ⟨T', h', i', ms', hk', hle, hD', ⟨m, rfl, hM⟩, hw⟩ := ih T1 _ _ _ k (hD.patch hR) hk
      have hup : ∀ b, patch h i r b ≠ none → h b ≠ none ∨ i ≤ b := by
        intro b h1
        rw [patch_eq] at h1
        split at h1
        · rename_i c
          rcases c with c | c
          · exact .inl (hR b c)
          · exact .inr c.1
        · exact .inl h1
      refine ⟨T', h', i', _, hk', by omega, ⟨hD'.1, fun b hb => ?_⟩, ⟨m ++ r.mods, by simp, ?_⟩, ?_⟩
      · rcases hD'.2 b hb with c | c
        · exact hup b c
        · right; omega
      · intro b hb
        rcases List.mem_append.1 hb with hb | hb
        · rcases hM b hb with h1 | h1
          · rw [patch_eq] at h1
            split at h1
            · rename_i c
              rcases c with c | c
              · exact .inl (hR b c)
              · right; omega
            · exact .inl h1
          · right; omega
        · exact .inl (hR b hb)
      intro B σ g w a Q hI hB hfree hF hN hQ
      refine OpPost.wp (htri B σ g w a.eval h (fun _ _ => rfl) hI hB (fun b h1 h2 => hfree b h1 (by omega)) (fun x _ => hF.ev x)) ?_
      rintro u w1 ⟨σ1, g1, hS, hI1, hv⟩
      refine hw B σ1 g1 w1 _ Q hI1 (Nat.le_trans hB hS.size) ?_ (hfr σ1 g1 a u (hF.mono hS.sig hS.gle) hN hv) (by rw [put_size]; exact hN) ?_
      · intro b h1 h2
        cases hs : σ1 b with
        | none => rfl
        | some p =>
          rcases hS.snew b p hs with h3 | h3
          · rw [hfree b (by omega) h2] at h3; cases h3
          · omega
      · rintro a' w' ⟨h1, h2, σ', g', h3, h4, h5⟩
        refine hQ a' w' ⟨by rw [h1, put_defers], h2, σ', g', ?_, h4, h5⟩
        have := (hS.trans (by rw [show i' - (i + r.n) = i' - i - r.n by omega] at h3; exact h3))
        rw [show r.n + (i' - i - r.n) = i' - i by omega] at this
        exact this.weaken (by intro b; simp only [List.mem_append]; rintro ((h | h | h) | h) <;> simp [h])
    unfold rgn at hk
    split at hk
    · rename_i hg
      obtain ⟨T', h', i', ms', h1, h2, hDD, h3, h4⟩ := run T hk
      refine ⟨T', h', i', ms', h1, h2, hDD, h3, fun B σ g w a Q hI hB hfree hF hN hQ => ?_⟩
      unfold wpList
      rw [if_pos (by unfold Region.wanted; rw [hg])]
      exact .inl (h4 B σ g w a Q hI hB hfree hF hN hQ)
    · rename_i j b hg
      split at hk
      · rename_i d hd
        split at hk
        · rename_i l x hT
          have hk := split_of hk
          have yield : ∀ σ g a, FrOk E σ g T a → yielded all.toArray a.tmps j = some x := by
            intro σ g a hF
            have h1 := hF d
            rw [hT] at h1
            generalize hv : a.eval (.tmp d) = v at h1
            cases h1
            have hv' : a.tmps.getD d undef = .bool x := hv
            unfold dstOf at hd
            split at hd
            · rename_i oj hoj
              unfold yielded
              rw [Array.getD_eq_getD_getElem?] at hv'
              simp only [List.getElem?_toArray, hoj, Option.bind_some, hd]
              cases hq : a.tmps[d]? with
              | none => rw [hq] at hv'; cases hv'
              | some u => rw [hq] at hv'; simp at hv'; rw [hv']
            · cases hd
          have hF1 : ∀ σ g a, FrOk E σ g T a → FrOk E σ g (upd T d (.bool true x)) a := by
            intro σ g a hF t
            rw [upd_apply]
            by_cases e : t = d
            · subst e
              rw [if_pos rfl]
              have h1 := hF t
              rw [hT] at h1
              generalize a.eval (.tmp t) = v at h1
              cases h1; exact .bool _ _
            · rw [if_neg e]; exact hF t
          have go : x = b → step E call o.op (upd T d (.bool true x)) h i (fun res => keep N o.dst res (upd T d (.bool true x)) h i ms fun T h i ms => rgn E N call all ops T h i ms k) →
              ∃ T' h' i' ms', k T' h' i' ms' ∧ i ≤ i' ∧ Dom h i h' i' ∧ (∃ m, ms' = m ++ ms ∧ ModsOk h i i' m) ∧ RgnTri E N all.toArray (o :: ops) T h i T' h' i' ms' := fun hxb hk => by
            obtain ⟨T', h', i', ms', h1, h2, hDD, h3, h4⟩ := run _ hk
            refine ⟨T', h', i', ms', h1, h2, hDD, h3, fun B σ g w a Q hI hB hfree hF hN hQ => ?_⟩
            unfold wpList
            rw [if_pos (by unfold Region.wanted; rw [hg]; simp [yield σ g a hF, hxb])]
            exact .inl (h4 B σ g w a Q hI hB hfree (hF1 σ g a hF) hN hQ)
          split at hk
          · exact go rfl hk
          · exact go rfl hk
          · rename_i hn1 hn2
            have hne : x ≠ b := by
              rintro rfl
              cases x
              · exact hn2 rfl rfl
              · exact hn1 rfl rfl
            split at hk
            · rename_i hdst
              obtain ⟨T', h', i', ms', h1, h2, hDD, h3, h4⟩ := ih _ _ _ _ k hD hk
              refine ⟨T', h', i', ms', h1, h2, hDD, h3, fun B σ g w a Q hI hB hfree hF hN hQ => ?_⟩
              unfold wpList
              rw [if_neg (by unfold Region.wanted; rw [hg]; simp [yield σ g a hF, hne])]
              rw [hdst]
              exact h4 B σ g w a Q hI hB hfree (hF1 σ g a hF) hN hQ
            · rename_i d' hdst
              obtain ⟨T', h', i', ms', h1, h2, hDD, h3, h4⟩ := ih _ _ _ _ k hD hk
              refine ⟨T', h', i', ms', h1, h2, hDD, h3, fun B σ g w a Q hI hB hfree hF hN hQ => ?_⟩
              unfold wpList
              rw [if_neg (by unfold Region.wanted; rw [hg]; simp [yield σ g a hF, hne])]
              rw [hdst]
              exact h4 B σ g w _ Q hI hB hfree ((hF1 σ g a hF).skipU d') (by rw [put_size]; exact hN) (fun a' w' hA => hQ a' w' ⟨by rw [hA.df]; exact put_defers, hA.sz, hA.ex⟩)
        · rename_i u hT
          split at hk
          · exact hk.elim
          rename_i hu
          have yield : ∀ σ g a, FrOk E σ g T a → yielded all.toArray a.tmps j = none := by
            intro σ g a hF
            have h1 := hF d
            rw [hT] at h1
            generalize hv : a.eval (.tmp d) = v at h1
            cases h1
            have hv' : a.tmps.getD d undef = u := hv
            unfold dstOf at hd
            split at hd
            · rename_i oj hoj
              unfold yielded
              rw [Array.getD_eq_getD_getElem?] at hv'
              simp only [List.getElem?_toArray, hoj, Option.bind_some, hd]
              cases hq : a.tmps[d]? with
              | none => rfl
              | some y =>
                rw [hq] at hv'
                simp at hv'
                subst hv'
                cases y <;> first | rfl | (simp [boolV] at hu)
            · cases hd
          split at hk
          · rename_i hdst
            obtain ⟨T', h', i', ms', h1, h2, hDD, h3, h4⟩ := ih _ _ _ _ k hD hk
            refine ⟨T', h', i', ms', h1, h2, hDD, h3, fun B σ g w a Q hI hB hfree hF hN hQ => ?_⟩
            unfold wpList
            rw [if_neg (by unfold Region.wanted; rw [hg]; simp [yield σ g a hF])]
            rw [hdst]
            exact h4 B σ g w a Q hI hB hfree hF hN hQ
          · rename_i d' hdst
            obtain ⟨T', h', i', ms', h1, h2, hDD, h3, h4⟩ := ih _ _ _ _ k hD hk
            refine ⟨T', h', i', ms', h1, h2, hDD, h3, fun B σ g w a Q hI hB hfree hF hN hQ => ?_⟩
            unfold wpList
            rw [if_neg (by unfold Region.wanted; rw [hg]; simp [yield σ g a hF])]
            rw [hdst]
            exact h4 B σ g w _ Q hI hB hfree (hF.skipU d') (by rw [put_size]; exact hN) (fun a' w' hA => hQ a' w' ⟨by rw [hA.df]; exact put_defers, hA.sz, hA.ex⟩)
        · exact hk.elim
      · exact hk.elim
theorem inv_patch {B i n : Nat} {m : List Nat} {σ σ' : Pl} {g g' : GH} {w w' : World} {h h' : Hp Y} (hI : Inv E B σ h g w) (hI' : Inv E B σ' h' g' w') (hS : Stp i n m σ g w σ' g' w') (hm : ∀ b ∈ m, h b ≠ none) (hfree : ∀ b, i ≤ b → b < i + n → σ b = none)
    {r : Res Y} (h1 : r.n = n) (h2 : r.mods = m) (h3 : r.h = h') : Inv E B σ' (patch h i r) g' w' := by
  subst h1; subst h2; subst h3
  -- an old block that was not changed
  have old : ∀ b x, h b = some x → b ∉ r.mods → ∃ p z, σ b = some (p, z) ∧ σ' b = some (p, z) ∧ BlkOk E σ g w p z x ∧ p < w.heap.size ∧ ∀ b' ∈ r.mods, ∀ z', σ b' ≠ some (p, z') := by
    intro b x hx hb
    obtain ⟨p, z, hσ, hbo⟩ := hI.blk b x hx
    refine ⟨p, z, hσ, hS.sig _ _ hσ, hbo, (hI.base _ _ _ hσ).2, fun b' hb' z' hσ' => ?_⟩
    exact hb (hI.inj _ _ _ _ _ (by rw [hx]; simp) (hm b' hb') hσ hσ' ▸ hb')
  refine ⟨hI'.gc, hI'.gm, ?_, ?_, hI'.base, ?_, ?_, hI'.glob⟩
  · intro b x hx
    rw [patch_eq] at hx
    split at hx
    · exact hI'.blk b x hx
    · rename_i c
      obtain ⟨p, z, k1, k2, k3, k4, k5⟩ := old b x hx (fun e => c (.inl e))
      exact ⟨p, z, k2, k3.mono hS.sig hS.gle (hS.heap p k4 fun b' hb' z' => k5 b' hb' z')⟩
  · intro b1 b2 p z1 z2 q1 q2 s1 s2
    rw [patch_eq] at q1 q2
    -- one changed or new, the other one not
    have mix : ∀ b1 b2 z1 z2, (b1 ∈ r.mods ∨ (i ≤ b1 ∧ b1 < i + r.n)) → ¬ (b2 ∈ r.mods ∨ (i ≤ b2 ∧ b2 < i + r.n)) → h b2 ≠ none → σ' b1 = some (p, z1) → σ' b2 = some (p, z2) → False := by
      intro b1 b2 z1 z2 c1 c2 q2 s1 s2
      obtain ⟨x, hx⟩ := Option.ne_none_iff_exists'.1 q2
      obtain ⟨p', z', k1, k2, k3, k4, k5⟩ := old b2 x hx (fun e => c2 (.inl e))
      rw [k2] at s2; cases s2
      cases hq : σ b1 with
      | some pq =>
        have := hS.sig _ _ hq
        rw [s1] at this
        obtain rfl := Option.some.inj this
        rcases c1 with c1 | c1
        · exact k5 b1 c1 _ hq
        · rw [hfree b1 c1.1 c1.2] at hq; cases hq
      | none =>
        rcases hS.blk b1 p z1 hq s1 with e | ⟨b', e1, z'', e2⟩
        · omega
        · exact k5 b' e1 _ e2
    split at q1 <;> split at q2
    · exact hI'.inj _ _ _ _ _ q1 q2 s1 s2
    · exact (mix b1 b2 z1 z2 ‹_› ‹_› q2 s1 s2).elim
    · exact (mix b2 b1 z2 z1 ‹_› ‹_› q1 s2 s1).elim
    · rename_i c1 c2
      obtain ⟨x1, hx1⟩ := Option.ne_none_iff_exists'.1 q1
      obtain ⟨x2, hx2⟩ := Option.ne_none_iff_exists'.1 q2
      obtain ⟨p1, y1, k1, k2, _⟩ := old b1 x1 hx1 (fun e => c1 (.inl e))
      obtain ⟨p2, y2, l1, l2, _⟩ := old b2 x2 hx2 (fun e => c2 (.inl e))
      rw [k2] at s1; cases s1
      rw [l2] at s2; cases s2
      exact hI.inj _ _ _ _ _ q1 q2 k1 l1
  · intro b x p z o v hx hσ hv
    rw [patch_eq] at hx
    split at hx
    · exact hI'.fz b x p z o v hx hσ hv
    · rename_i c
      obtain ⟨p', z', k1, k2, k3, k4, k5⟩ := old b x hx (fun e => c (.inl e))
      rw [k2] at hσ; cases hσ
      rcases hS.gcnew _ _ _ hv with e | e | ⟨b', e1, z'', e2⟩
      · exact hI.fz b x p z o v hx k1 e
      · omega
      · exact (k5 b' e1 _ e2).elim
  · intro b x p z hx hσ
    rw [patch_eq] at hx
    split at hx
    · exact hI'.fm b x p z hx hσ
    · rename_i c
      obtain ⟨p', z', k1, k2, k3, k4, k5⟩ := old b x hx (fun e => c (.inl e))
      rw [k2] at hσ; cases hσ
      cases hq : g'.obj p with
      | none => rfl
      | some es =>
        rcases hS.gmnew _ _ hq with e | e
        · rw [hI.fm b x p z hx k1] at e; cases e
        · omega

end
end Go.Proofs.YtcaomfbcchemnaaDoor
