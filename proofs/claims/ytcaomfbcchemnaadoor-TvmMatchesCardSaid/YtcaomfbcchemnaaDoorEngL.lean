/- A symbolic executor, part L: code and calls are sound. -/
import Derived.Test.YtcaomfbcchemnaaDoorEngO
import Derived.Test.YtcaomfbcchemnaaDoorEngV
import Derived.Test.YtcaomfbcchemnaaDoorEngY
import Derived.LoopN
namespace Go.Proofs.YtcaomfbcchemnaaDoor
open Go.RowKit
set_option linter.unusedVariables false

section
variable {Y : Thy} {E : Eng Y} {F : Fns Y}

/-- A piece of code leaves by e, as the symbolic state says. -/
def CodeTri (E : Eng Y) (N : Nat) (c : Code) (T : Fr Y) (h : Hp Y) (i : Nat) (e : Exit) (T' : Fr Y) (h' : Hp Y) (i' : Nat) (ms' : List Nat) : Prop :=
  ∀ (B : Nat) (σ : Pl) (g : GH) (w : World) (a : Act) (Q : Exit → Act → World → Prop), Inv E B σ h g w → B ≤ w.heap.size → (∀ b, i ≤ b → b < i' → σ b = none) → FrOk E σ g T a → a.tmps.size = N →
    (∀ a' w', Aft E B N i i' ms' σ g w a.defers T' h' a' w' → Q e a' w') → c.wp E.P Q a w
/-- A way of reading code is sound. -/
def VcOk (E : Eng Y) (N : Nat) (c : Code) (V : Fr Y → Hp Y → Nat → List Nat → Kont Y → Prop) : Prop :=
  ∀ T h i ms K, DomLt h i → V T h i ms K → ∃ e T' h' i' ms', K e T' h' i' ms' ∧ i ≤ i' ∧ Dom h i h' i' ∧ (∃ m, ms' = m ++ ms ∧ ModsOk h i i' m) ∧ CodeTri E N c T h i e T' h' i' ms'
/-- A way of reading loops is sound for whatever body. -/
def LoopOk (E : Eng Y) (L : (Fr Y → Hp Y → Nat → List Nat → Kont Y → Prop) → Fr Y → Hp Y → Nat → List Nat → Kont Y → Prop) : Prop :=
  ∀ N b V, VcOk E N b V → VcOk E N (.loop b) (L V)

def FnGood (P : Program) (f : FuncId) : Prop := ∃ fn, P.funcs[f]? = some fn ∧ fn.body.isSome = true ∧ (fn.name == "runtime.NumGoroutine") = false
structure FnsOk (E : Eng Y) (F : Fns Y) : Prop where
  sumG : ∀ f S, F.sums f = some S → FnGood E.P f
  fnG : ∀ f fn, F.fns f = some fn → FnGood E.P f
  sum : ∀ f S, F.sums f = some S → ∀ args h i k, DomLt h i → S args h i k → ∃ r, k r ∧ ROk h r ∧ CallTri E f args h i r
  fn : ∀ f fn, F.fns f = some fn → E.P.funcs[f]? = some fn
  loop : ∀ f j L, F.loops f j = some L → LoopOk E L

theorem Aft.trans {B N i i1 i2 : Nat} {m1 m2 : List Nat} {σ : Pl} {g : GH} {w : World} {df : List Deferred} {T1 : Fr Y} {h1 : Hp Y} {a1 : Act} {w1 : World} (h : Aft E B N i i1 m1 σ g w df T1 h1 a1 w1) (hi : i ≤ i1) (hi2 : i1 ≤ i2) (hB : B ≤ w.heap.size) (hfree : ∀ b, i ≤ b → b < i2 → σ b = none) (hm : ∃ m, m2 = m ++ m1) :
    ∃ σ1 g1, Inv E B σ1 h1 g1 w1 ∧ B ≤ w1.heap.size ∧ (∀ b, i1 ≤ b → b < i2 → σ1 b = none) ∧ FrOk E σ1 g1 T1 a1 ∧
      ∀ T2 h2 a2 w2, Aft E B N i1 i2 m2 σ1 g1 w1 a1.defers T2 h2 a2 w2 → Aft E B N i i2 m2 σ g w df T2 h2 a2 w2 := by
  obtain ⟨hd, hs, σ1, g1, hS, hI, hF⟩ := h
  refine ⟨σ1, g1, hI, Nat.le_trans hB hS.size, ?_, hF, ?_⟩
  · intro b b1 b2
    cases hq : σ1 b with
    | none => rfl
    | some p =>
      rcases hS.snew b p hq with h3 | h3
      · rw [hfree b (by omega) b2] at h3; cases h3
      · omega
  · rintro T2 h2 a2 w2 ⟨k1, k2, σ2, g2, k3, k4, k5⟩
    obtain ⟨m, rfl⟩ := hm
    refine ⟨k1.trans hd, k2, σ2, g2, ?_, k4, k5⟩
    have h3 : Stp (i + (i1 - i)) (i2 - i1) (m ++ m1) σ1 g1 w1 σ2 g2 w2 := by rw [show i + (i1 - i) = i1 by omega]; exact k3
    have := hS.trans h3
    rw [show i1 - i + (i2 - i1) = i2 - i by omega] at this
    exact this.weaken (by intro b; simp only [List.mem_append]; rintro ((h | h) | h) <;> simp [h])

def rvRun (tmps : Array Value) : ResultVar → Sem Value
  | .tmp t => pure (tmps.getD t undef)
  | .cell b t => do loadVar t (← asAddr (tmps.getD b undef))
theorem results_eq (fn : Func) (tmps : Array Value) : results fn tmps = (do
    let vs ← fn.results.mapM (rvRun tmps)
    pure (if h : vs.size = 1 then vs[0] else .tuple vs)) := by
  unfold results
  congr 1

theorem resultOf_den (hE : EngOk E) {σ : Pl} {g : GH} {B : Nat} {T : Fr Y} {h : Hp Y} {w : World} {a : Act} (hI : Inv E B σ h g w) (hF : FrOk E σ g T a) {rv : ResultVar} {v : SV Y} (hr : resultOf E T h rv = some v) :
    ∃ u, (rvRun a.tmps rv).run E.P w = .ok u w ∧ Den E σ g v u := by
  cases rv with
  | tmp t =>
    obtain rfl := Option.some.inj hr
    exact ⟨a.tmps.getD t undef, by simp [rvRun, go_sem], hF t⟩
  | cell b t =>
    simp only [resultOf] at hr
    split at hr
    · rename_i ti b' off ht hb
      split at hr
      · rename_i cs fz tg hh
        have h1 := hF b
        rw [hb] at h1
        generalize hv : a.eval (.tmp b) = v1 at h1
        cases h1
        rename_i r z hσ
        have hv' : a.tmps.getD b undef = .pointer (some ⟨r, off, none⟩) := hv
        obtain ⟨r', z', hσ', hbo⟩ := hI.blk _ _ hh
        rw [hσ] at hσ'; cases hσ'
        obtain ⟨u, hu1, hu2⟩ := blk_cell (by intro es e; cases e) hbo
        have := rowAt_den hr u hu2
        have hl := run_loadVar_ty hE ht w r off u (fun j hj => hu1 _ (by
          cases hd : isRowD ti.d with
          | true => rw [hd] at this hj; have := this.1; show _ < cs.length; simp at hj; omega
          | false => rw [hd] at this hj; have := this.1; show _ < cs.length; simp at hj; omega))
        have hr2 : (rvRun a.tmps (.cell b t)).run E.P w = .ok (match isRowD ti.d with | true => .agg ((List.range ti.size).map fun j => u (off + j)).toArray | false => u off) w := by
          simp only [rvRun]; rw [hv']; simp only [asAddr, Sem.run_bind, Sem.run_pure, Result.andThen_ok, hl]
          rfl
        refine ⟨_, hr2, ?_⟩
        cases hd : isRowD ti.d with
        | true => rw [hd] at this; exact this.2
        | false => rw [hd] at this; exact this.2
      · cases hr
    · cases hr

theorem resultsOf_den (hE : EngOk E) {σ : Pl} {g : GH} {B : Nat} {T : Fr Y} {h : Hp Y} {w : World} {a : Act} (hI : Inv E B σ h g w) (hF : FrOk E σ g T a) : ∀ {rs : List ResultVar} {vs : List (SV Y)}, resultsOf E T h rs = some vs →
    ∃ us : List Value, (rs.mapM (rvRun a.tmps)).run E.P w = .ok us w ∧ DenL E σ g vs us := by
  intro rs
  induction rs with
  | nil => intro vs h; simp [resultsOf] at h; subst h; exact ⟨[], by simp [go_sem], rfl, fun j sv v h1 => by simp at h1⟩
  | cons r rs ih =>
    intro vs hr
    simp only [resultsOf] at hr
    split at hr
    · rename_i v vs' h1 h2
      obtain rfl := Option.some.inj hr
      obtain ⟨u, hu, hd⟩ := resultOf_den hE hI hF h1
      obtain ⟨us, hus, hds⟩ := ih h2
      refine ⟨u :: us, ?_, by simp [hds.1], ?_⟩
      · rw [List.mapM_cons]
        simp only [Sem.run_bind, hu, Result.andThen_ok, hus, Sem.run_pure]
      · intro j sv v h3 h4
        cases j with
        | zero => simp at h3 h4; subst h3; subst h4; exact hd
        | succ j => exact hds.2 j sv v (by simpa using h3) (by simpa using h4)
    · cases hr

theorem results_den (hE : EngOk E) {σ : Pl} {g : GH} {B : Nat} {T : Fr Y} {h : Hp Y} {w : World} {a : Act} (hI : Inv E B σ h g w) (hF : FrOk E σ g T a) {fn : Func} {vs : List (SV Y)} (hr : resultsOf E T h fn.results.toList = some vs) :
    ∃ u, (results fn a.tmps).run E.P w = .ok u w ∧ Den E σ g (oneOrTup vs) u := by
  obtain ⟨us, hus, hd⟩ := resultsOf_den hE hI hF hr
  have hm : (fn.results.mapM (rvRun a.tmps)).run E.P w = .ok us.toArray w := by
    rw [Array.mapM_eq_mapM_toList, Sem.run_map, hus]; rfl
  refine ⟨if h : us.toArray.size = 1 then us.toArray[0] else .tuple us.toArray, ?_, ?_⟩
  · rw [results_eq, Sem.run_bind, hm]; rfl
  · by_cases h1 : ∃ v, vs = [v]
    · obtain ⟨v, rfl⟩ := h1
      obtain ⟨u, rfl⟩ : ∃ u, us = [u] := by
        have := hd.1
        match us, this with
        | [u], _ => exact ⟨u, rfl⟩
      exact hd.2 0 v u rfl rfl
    · have hl : us.length ≠ 1 := by
        intro e
        have := hd.1
        match vs, e ▸ this with
        | [v], _ => exact h1 ⟨v, rfl⟩
      have ho : oneOrTup vs = .tup vs := by
        match vs, h1 with
        | [], _ => rfl
        | [v], h1 => exact absurd ⟨v, rfl⟩ h1
        | _ :: _ :: _, _ => rfl
      rw [ho, dif_neg (by simpa using hl)]
      refine .tup (fun j => us.getD j undef) (by simp [hd.1]) (fun j hj => ?_) (fun j sv hj => ?_)
      · have : j < us.length := by rw [← hd.1]; exact hj
        simp [this]
      · have hlt : j < us.length := by rw [← hd.1]; exact (List.getElem?_eq_some_iff.1 hj).1
        rw [List.getD_eq_getElem?_getD, List.getElem?_eq_getElem hlt]
        exact hd.2 j sv _ hj (List.getElem?_eq_getElem hlt)

theorem nthD_get : ∀ (l : List (SV Y)) (t : Nat), nthD l t = (l[t]?).getD .unk
  | [], t => by cases t <;> rfl
  | x :: r, 0 => rfl
  | x :: r, t + 1 => by simpa [nthD] using nthD_get r t

theorem mem_ltFilter {i b : Nat} : ∀ {l : List Nat}, b ∈ l → b < i → b ∈ ltFilter i l
  | [], h, _ => by simp at h
  | x :: l, h, hb => by
    simp only [ltFilter]
    have ih : b ∈ l → b ∈ ltFilter i l := fun h => mem_ltFilter h hb
    split
    · rcases List.mem_cons.1 h with rfl | h
      · simp
      · exact List.mem_cons_of_mem _ (ih h)
    · rename_i e
      rcases List.mem_cons.1 h with rfl | h
      · have h1 : Nat.blt b i = true := by rw [Nat.blt, Nat.ble_eq]; exact hb
        rw [h1, Bool.true_and, Bool.not_eq_false', memB_iff] at e
        exact e
      · exact ih h

theorem of_ltFilter {i b : Nat} : ∀ {l : List Nat}, b ∈ ltFilter i l → b ∈ l ∧ b < i
  | [], h => by simp [ltFilter] at h
  | x :: l, h => by
    simp only [ltFilter] at h
    split at h
    · rename_i e
      rw [Bool.and_eq_true] at e
      rcases List.mem_cons.1 h with rfl | h
      · exact ⟨by simp, blt_lt e.1⟩
      · have := of_ltFilter h; exact ⟨by simp [this.1], this.2⟩
    · have := of_ltFilter h; exact ⟨by simp [this.1], this.2⟩

theorem nidL_get {i : Nat} : ∀ {cs : List (SV Y)}, nidL i cs = true → ∀ {j : Nat} {sv : SV Y}, cs[j]? = some sv → nid i sv = true
  | [], _, j, sv, h => by simp at h
  | x :: r, hn, j, sv, h => by
    simp only [nidL, Bool.and_eq_true] at hn
    cases j with
    | zero => simp at h; subst h; exact hn.1
    | succ j => exact nidL_get hn.2 (by simpa using h)
theorem nidE_get {i : Nat} : ∀ {es : List (Value × SV Y)}, nidE i es = true → ∀ {j : Nat} {kv : Value} {sv : SV Y}, es[j]? = some (kv, sv) → nid i sv = true
  | [], _, j, kv, sv, h => by simp at h
  | (k0, x) :: r, hn, j, kv, sv, h => by
    simp only [nidE, Bool.and_eq_true] at hn
    cases j with
    | zero => simp at h; obtain ⟨_, rfl⟩ := h; exact hn.1
    | succ j => exact nidE_get hn.2 (by simpa using h)
/-- A value that names no block from i on means the same wherever these lie. -/
theorem den_nid (hE : EngOk E) {σ σ' : Pl} {g : GH} {i : Nat} {sv : SV Y} {v : Value} (h : Den E σ g sv v) (hs : ∀ b p, b < i → σ b = some p → σ' b = some p) : nid i sv = true → Den E σ' g sv v := by
  induction h with
  | unk v => exact fun _ => .unk v
  | val v => exact fun _ => .val v
  | int l k n => exact fun _ => .int l k n
  | bool l b => exact fun _ => .bool l b
  | str l s => exact fun _ => .str l s
  | ptr h => exact fun hn => .ptr (hs _ _ (blt_lt hn) h)
  | eptr h => exact fun hn => .eptr (hs _ _ (blt_lt hn) h)
  | pptr c hc _ ih => exact fun _ => .pptr c hc fun j sv hj => ih j sv hj (nidL_get (hE.encI _ _ _) hj)
  | sl h hz hl hm hc => exact fun hn => .sl (hs _ _ (blt_lt hn) h) hz hl hm hc
  | psl cv hl hm hf hn hb _ ih => exact fun _ => .psl cv hl hm hf hn hb fun q x hq j sv hj => ih q x hq j sv hj (nidL_get (hE.encI _ _ _) hj)
  | agg c hs' hc _ ih => exact fun hn => .agg c hs' hc fun j sv hj => ih j sv hj (nidL_get hn hj)
  | tup c hs' hc _ ih => exact fun hn => .tup c hs' hc fun j sv hj => ih j sv hj (nidL_get hn hj)
  | fn ca cb hsa hca _ hsb hcb _ iha ihb =>
    intro hn
    simp only [nid, Bool.and_eq_true] at hn
    exact .fn ca cb hsa hca (fun j sv hj => iha j sv hj (nidL_get hn.1 hj)) hsb hcb fun j sv hj => ihb j sv hj (nidL_get hn.2 hj)
  | map h => exact fun hn => .map (hs _ _ (blt_lt hn) h)
  | pmap c ho hs' hk _ ih => exact fun hn => by cases hn
  | iface _ ih => exact fun hn => .iface (ih hn)
theorem blk_nid (hE : EngOk E) {σ σ' : Pl} {g : GH} {w : World} {i r z : Nat} {b : Blk Y} (h : BlkOk E σ g w r z b) (hs : ∀ b p, b < i → σ b = some p → σ' b = some p) (hn : nidB i (some b) = true) : BlkOk E σ' g w r z b := by
  cases b with
  | map es =>
    obtain ⟨ents, c, h1, h2, h3⟩ := h
    exact ⟨ents, c, h1, h2, fun j k sv hj => let ⟨v, bo, h4, h5⟩ := h3 j k sv hj; ⟨v, bo, h4, den_nid hE h5 hs (nidE_get hn hj)⟩⟩
  | raw cs fz tg =>
    obtain ⟨arr, e, h1, h2, h3, h4, h0⟩ := h
    exact ⟨arr, e, h1, h2, h3, fun j sv hj => let ⟨v, h5, h6⟩ := h4 j sv hj; ⟨v, h5, den_nid hE h6 hs (nidL_get hn hj)⟩, h0⟩
  | rows th l fz =>
    obtain ⟨arr, e, h1, h2, h3, h4, h0⟩ := h
    exact ⟨arr, e, h1, h2, h3, fun j sv hj => let ⟨v, h5, h6⟩ := h4 j sv hj; ⟨v, h5, den_nid hE h6 hs (by
      obtain ⟨q, p, x, _, _, _, hs⟩ := flat_inv hE th l hj
      exact nidL_get (hE.encI _ _ _) hs)⟩, h0⟩
theorem nidM_get {i : Nat} {h : Hp Y} : ∀ {m : List Nat}, nidM i h m = true → ∀ {b : Nat}, b ∈ m → nidB i (h b) = true
  | [], _, b, hb => by simp at hb
  | x :: r, hn, b, hb => by
    simp only [nidM, Bool.and_eq_true] at hn
    rcases List.mem_cons.1 hb with rfl | hb
    · exact hn.1
    · exact nidM_get hn.2 hb
theorem onlyM_eq (h : Hp Y) (m : List Nat) (b : Nat) : onlyM h m b = if b ∈ m then h b else none := by
  unfold onlyM
  by_cases c : b ∈ m
  · rw [if_pos c]; have := memB_iff.2 c; rw [this]
  · rw [if_neg c]
    have : memB b m = false := by rw [← Bool.not_eq_true, memB_iff]; exact c
    rw [this]

/-- places without those of some new blocks -/
def cutσ (σ : Pl) (i i' : Nat) : Pl := fun b => if i ≤ b ∧ b < i' then none else σ b
theorem inv_cut (hE : EngOk E) {B : Nat} {σ : Pl} {h : Hp Y} {g : GH} {w : World} {i i' : Nat} {m : List Nat} (hI : Inv E B σ h g w) (hm : ∀ b ∈ m, b < i) (hn : nidM i h m = true) : Inv E B (cutσ σ i i') (onlyM h m) g w := by
  have at_ : ∀ b x, onlyM h m b = some x → b ∈ m ∧ h b = some x := by
    intro b x hx
    rw [onlyM_eq] at hx
    split at hx
    · exact ⟨‹_›, hx⟩
    · cases hx
  have sg : ∀ b p, cutσ σ i i' b = some p → σ b = some p := by
    intro b p hb
    unfold cutσ at hb
    split at hb
    · cases hb
    · exact hb
  have ne : ∀ b, onlyM h m b ≠ none → h b ≠ none := fun b hb => by
    obtain ⟨x, hx⟩ := Option.ne_none_iff_exists'.1 hb
    rw [(at_ b x hx).2]; simp
  refine ⟨hI.gc, hI.gm, ?_, ?_, ?_, ?_, ?_, hI.glob⟩
  · intro b x hx
    obtain ⟨hbm, hx⟩ := at_ b x hx
    obtain ⟨r, z, h1, h2⟩ := hI.blk b x hx
    have hb := hm b hbm
    refine ⟨r, z, by unfold cutσ; rw [if_neg (by omega)]; exact h1, blk_nid hE h2 (i := i) (fun c p hc hp => by unfold cutσ; rw [if_neg (by omega)]; exact hp) ?_⟩
    have := nidM_get hn hbm
    rw [hx] at this; exact this
  · exact fun b b' r z z' h1 h2 s1 s2 => hI.inj b b' r z z' (ne b h1) (ne b' h2) (sg _ _ s1) (sg _ _ s2)
  · exact fun b r z hb => hI.base b r z (sg _ _ hb)
  · exact fun b x r z o v hx hb hv => hI.fz b x r z o v (at_ b x hx).2 (sg _ _ hb) hv
  · exact fun b x r z hx hb => hI.fm b x r z (at_ b x hx).2 (sg _ _ hb)
theorem stp_cut {i n : Nat} {m : List Nat} {σ σ' : Pl} {g g' : GH} {w w' : World} (h : Stp i n m σ g w σ' g' w') (hfree : ∀ b, i ≤ b → b < i + n → σ b = none) : Stp i 0 m σ g w (cutσ σ' i (i + n)) g' w' := by
  have sg : ∀ b p, cutσ σ' i (i + n) b = some p → σ' b = some p ∧ ¬ (i ≤ b ∧ b < i + n) := by
    intro b p hb
    unfold cutσ at hb
    split at hb
    · cases hb
    · exact ⟨hb, ‹_›⟩
  refine ⟨fun b p hb => ?_, fun b p hb => ?_, h.gle, h.gcnew, h.gmnew, h.heap, h.size, h.os, h.tape, h.output, fun b r z h1 h2 => h.blk b r z h1 (sg _ _ h2).1⟩
  · unfold cutσ
    rw [if_neg (by rintro ⟨h1, h2⟩; rw [hfree b h1 h2] at hb; cases hb)]
    exact h.sig _ _ hb
  · obtain ⟨h1, h2⟩ := sg b p hb
    rcases h.snew b p h1 with h3 | h3
    · exact .inl h3
    · exact absurd h3 h2

theorem Stp.filter {h : Hp Y} {i i' : Nat} {m : List Nat} {σ σ1 : Pl} {g g1 : GH} {w w1 : World} (hS : Stp i (i' - i) m σ g w σ1 g1 w1) (hD : DomLt h i) (hM : ModsOk h i i' m) (hfree : ∀ b, i ≤ b → b < i' → σ b = none) : Stp i (i' - i) (ltFilter i m) σ g w σ1 g1 w1 := by
  have key : ∀ b ∈ m, ∀ p, σ b = some p → b ∈ ltFilter i m := by
    intro b hb p hp
    by_cases e : b < i
    · exact mem_ltFilter hb e
    · rcases hM b hb with h1 | h1
      · exact absurd (hD b h1) e
      · rw [hfree b h1.1 h1.2] at hp; cases hp
  exact ⟨hS.sig, hS.snew, hS.gle, fun r o v hv => (hS.gcnew r o v hv).imp id (Or.imp id fun ⟨b, h1, z, h2⟩ => ⟨b, key b h1 _ h2, z, h2⟩), hS.gmnew,
    fun r hr hx => hS.heap r hr fun b hb z hz => hx b (key b hb _ hz) z hz, hS.size, hS.os, hS.tape, hS.output, fun b r z h1 h2 => (hS.blk b r z h1 h2).imp id fun ⟨b', h1, z', h2⟩ => ⟨b', key b' h1 _ h2, z', h2⟩⟩
theorem callF_ok (hE : EngOk E) (hF : FnsOk E F) {rec : Nat → Nat → Code → Fr Y → Hp Y → Nat → List Nat → Kont Y → Prop} (hrec : ∀ f N c, VcOk E N c (rec f N c)) : CallOk E (callF E F rec) := by
  intro f args h i k hD hk
  unfold callF at hk
  split at hk
  · rename_i S hS
    rw [forceL_eq] at hk
    exact hF.sum f S hS args h i k hD hk
  · split at hk
    · rename_i fn hfn
      split at hk
      · rename_i c hc
        split at hk
        · exact hk.elim
        · rename_i hle
          rw [Nat.ble_eq] at hle
          rw [forceL_eq] at hk
          obtain ⟨e, T', h', i', ms', hK, hi, hD', ⟨m, rfl, hM⟩, htri⟩ := hrec f fn.ntmps c _ _ _ _ _ hD hk
          have key : ∀ vs, (e = .normal ∨ e = .ret) → resultsOf E T' h' fn.results.toList = some vs → CallTri E f args h i ⟨oneOrTup vs, i' - i, ltFilter i (m ++ []), h', none⟩ := by
            intro vs he hvs B σ g w vals hh hrd hI hB hfree hd
            obtain rfl : hh = h := funext fun b => hrd b trivial
            have hsz : vals.size = args.length := by rw [hd.1]; simp
            refine calls_of_wp (hF.fn f fn hfn) hc ?_
            refine htri B σ g w _ _ hI hB (fun b h1 h2 => hfree b h1 (by show b < i + (i' - i); omega)) ?_ (by simp; omega) ?_
            · intro t
              rw [nthD_get]
              show Den E σ g _ ((vals ++ Array.replicate (fn.ntmps - vals.size) undef).getD t undef)
              rw [Array.getD_eq_getD_getElem?]
              by_cases ht : t < args.length
              · rw [List.getElem?_eq_getElem ht, Array.getElem?_append_left (by omega)]
                have := hd.2 t args[t] vals[t] (List.getElem?_eq_getElem ht) (by simp [hsz ▸ ht])
                rw [Array.getElem?_eq_getElem (by omega)]
                exact this
              · rw [List.getElem?_eq_none (by omega)]
                exact .unk _
            · rintro a' w' ⟨h1, h2, σ', g', h3, h4, h5⟩
              obtain ⟨u, hu, hdu⟩ := results_den hE h4 h5 hvs
              have hfree' : ∀ b, i ≤ b → b < i' → σ b = none := fun b h1 h2 => hfree b h1 (by show b < i + (i' - i); omega)
              have hst : Stp i (i' - i) (ltFilter i (m ++ [])) σ g w σ' g' w' := h3.filter hD (by simpa using hM) hfree'
              have hinv : Inv E B σ' (patch hh i ⟨oneOrTup vs, i' - i, ltFilter i (m ++ []), h', none⟩) g' w' :=
                inv_patch hI h4 hst (fun b hb => by
                  obtain ⟨hb1, hb2⟩ := of_ltFilter hb
                  rcases hM b (by simpa using hb1) with hb3 | hb3
                  · exact hb3
                  · omega) (fun b h1 h2 => hfree' b h1 (by omega)) (r := ⟨oneOrTup vs, i' - i, ltFilter i (m ++ []), h', none⟩) rfl rfl rfl
              rcases he with rfl | rfl
              · exact bodyPost_end hu h1 ⟨u, rfl, σ', g', hst, hinv, hdu⟩
              · exact bodyPost_ret hu h1 ⟨u, rfl, σ', g', hst, hinv, hdu⟩
          have mok : ∀ b ∈ ltFilter i (m ++ []), h b ≠ none := by
            intro b hb
            obtain ⟨hb1, hb2⟩ := of_ltFilter hb
            rcases hM b (by simpa using hb1) with hb3 | hb3
            · exact hb3
            · omega
          -- what cannot be reached is forgotten
          have key0 : ∀ vs l, (e = .normal ∨ e = .ret) → resultsOf E T' h' fn.results.toList = some vs → CallTri E f args h i ⟨oneOrTup vs, i' - i, ltFilter i (m ++ []), onlyM h' (reach h' i 100000 l (ltFilter i (m ++ []))), none⟩ := by
            intro vs l he hvs B σ g w vals hh hrd hI hB hfree hd
            refine (key vs he hvs B σ g w vals hh hrd hI hB hfree hd).mono ?_
            rintro en w' ⟨u, h1, σ', g', h2, h3, h4⟩
            refine ⟨u, h1, σ', g', h2, inv_sub h3 fun b x hx => ?_, h4⟩
            rw [patch_eq] at hx ⊢
            split at hx
            · have hx2 : onlyM h' (reach h' i 100000 l (ltFilter i (m ++ []))) b = some x := hx
              rw [onlyM_eq] at hx2
              split at hx2
              · rw [if_pos (by assumption)]; exact hx2
              · cases hx2
            · rw [if_neg (by assumption)]; exact hx
          have fin : (e = .normal ∨ e = .ret) → (match resultsOf E T' h' fn.results.toList with | some vs => forceL vs fun vs => forceNL (ltFilter i (m ++ [])) fun ms => forceNL (reach h' i 100000 (idsL vs ++ idsM h' ms) ms) fun l => forceN (i' - i) fun n => k ⟨oneOrTup vs, n, ms, onlyM h' l, none⟩ | none => False) → ∃ r, k r ∧ ROk h r ∧ CallTri E f args h i r := by
            intro he hK
            split at hK
            · rename_i vs hvs
              rw [forceL_eq, forceNL_eq, forceNL_eq, forceN_eq] at hK
              exact ⟨_, hK, mok, key0 vs _ he hvs⟩
            · exact hK.elim
          split at hK
          · exact fin (.inl rfl) hK
          · exact fin (.inr rfl) hK
          · exact hK.elim
      · exact hk.elim
    · exact hk.elim

theorem DenL.append {σ : Pl} {g : GH} {a b : List (SV Y)} {va vb : List Value} (h : DenL E σ g a va) (k : DenL E σ g b vb) : DenL E σ g (a ++ b) (va ++ vb) := by
  refine ⟨by simp [h.1, k.1], fun j sv v h1 h2 => ?_⟩
  have hl := h.1
  by_cases e : j < a.length
  · rw [List.getElem?_append_left e] at h1
    rw [List.getElem?_append_left (by omega)] at h2
    exact h.2 j sv v h1 h2
  · rw [List.getElem?_append_right (by omega)] at h1
    rw [List.getElem?_append_right (by omega), ← hl] at h2
    exact k.2 _ sv v h1 h2

theorem step_ok (hE : EngOk E) {call : Nat → List (SV Y) → Hp Y → Nat → (Res Y → Prop) → Prop} (hcall : CallOk E call) (hbody : ∀ f args h i k, call f args h i k → FnGood E.P f) (o : Oper) (T : Fr Y) (h : Hp Y) (i : Nat) (k : Res Y → Prop) (hD : DomLt h i) (hk : step E call o.op T h i k) :
    ∃ r, k r ∧ OpTri E o T h i r := by
  cases ho : o.op
  case move x => rw [ho] at hk; exact op_move_ok (.inl ho) hk
  case assign x => rw [ho] at hk; exact op_move_ok (.inr ho) hk
  case pick c a b => exact op_pick_ok ho hk
  case alloc t => exact alloc_ok hE ho hk
  case box t x => exact box_ok ho hk
  case build t p => rw [ho] at hk; exact sbuild_ok hE ho hk
  case buildSlice t n p => rw [ho] at hk; exact sbuildSlice_ok hE ho hk
  case load t x => rw [ho] at hk; exact sload_ok hE ho hk
  case store t x v => rw [ho] at hk; exact sstore_ok hE ho hk
  case nilCheck x => exact nilCheck_ok ho hk
  case binOp op t x y t' => rw [ho] at hk; exact sbinA_ok hE ho hk
  case unOp op t x => rw [ho] at hk; exact sun_ok ho hk
  case convert s d x =>
    rw [ho] at hk
    simp only [step, stPick, stAlloc, stBox, stNil, stConv, stMap, stExt, stLen, stMm, stApp, stCopy, stVal, stCall, stBuild, stBuildS, stFunc, stSlice] at hk
    split at hk
    · rename_i ti hs
      exact sconvert_ok hE (by rw [(hE.ty _ _ hs).1]; rfl) ho hk
    · exact hk.elim
  case makeFunc f a b => exact makeFunc_ok ho hk
  case fieldAddr s x f => rw [ho] at hk; exact sfieldAddr_ok hE ho hk
  case field s x f => rw [ho] at hk; exact sfield_ok hE ho hk
  case indexAddr t x ix => rw [ho] at hk; exact sindexAddr_ok hE ho hk
  case index t x ix => rw [ho] at hk; exact sindex_ok hE ho hk
  case makeSlice t x y => rw [ho] at hk; exact smake_ok hE ho hk
  case makeMap t rs =>
    rw [ho] at hk
    cases rs with
    | none =>
      simp only [step, stPick, stAlloc, stBox, stNil, stConv, stMap, stExt, stLen, stMm, stApp, stCopy, stVal, stCall, stBuild, stBuildS, stFunc, stSlice] at hk
      split at hk
      · exact makeMap_ok hE ho hk
      · exact hk.elim
    | some q => exact hk.elim
  case insert t m x v => rw [ho] at hk; exact sput_ok hE (.inr ho) hk
  case mapUpdate t m x v => rw [ho] at hk; exact sput_ok hE (.inl ho) hk
  case lookup t m x ok => rw [ho] at hk; exact slookup_ok hE ho hk
  case slice t x lo hi mx => rw [ho] at hk; exact sslice_ok hE ho hk
  case extract x n => exact extract_ok ho hk
  case call c =>
    rw [ho] at hk
    simp only [step, stPick, stAlloc, stBox, stNil, stConv, stMap, stExt, stLen, stMm, stApp, stCopy, stVal, stCall, stBuild, stBuildS, stFunc, stSlice] at hk
    split at hk
    · rename_i hc
      split at hk
      · rename_i t x ht hx
        exact slen_ok hE hc ho ht hx hk
      · exact hk.elim
    · rename_i hc
      split at hk
      · rename_i x r hr
        exact sminmax_ok false hc ho hr hk
      · exact hk.elim
    · rename_i hc
      split at hk
      · rename_i x r hr
        exact sminmax_ok true hc ho hr hk
      · exact hk.elim
    · rename_i hc
      split at hk
      · rename_i x y t t' ha hat
        split at hk
        · rename_i hb
          exact sappend_ok hE hc ho ha (by rw [hat, Nat.eq_of_beq_eq_true hb]) hk
        · exact hk.elim
      · exact hk.elim
    · rename_i hc
      split at hk
      · rename_i x y t ts ha hat
        exact scopy_ok hE hc ho ha hat hk
      · exact hk.elim
    · rename_i f hc
      split at hk
      · rename_i fid a b hf
        obtain ⟨fn, hfn, hb, hnm⟩ := hbody _ _ _ _ _ hk
        obtain ⟨r, hk, hR, htri⟩ := hcall _ _ _ _ _ hD hk
        refine ⟨r, hk, hR, ?_⟩
        intro B σ g w ρ hh hrd hI hB hfree hx
        have hxf := hx f (by simp [ho, Op.operands, Call.operands, hc])
        rw [hf] at hxf
        generalize hv : ρ f = vf at hxf
        cases hxf
        rename_i va vb ca cb hsa hca hda hsb hcb hdb
        have hrun : (execOp ρ o).run E.P w = .ok (.enter fid (va ++ c.args.map ρ ++ vb)) w := by
          unfold execOp
          have hbn : fn.body.isNone = false := by cases hq : fn.body <;> rw [hq] at hb <;> first | rfl | cases hb
          simp only [ho, resolve, hc, Sem.run_bind, Sem.run_pure, Result.andThen_ok, Deferred.ofValue, hv, invoke, callFunc, program, Sem.run, hfn, hnm, hbn, Bool.false_eq_true, if_false]
        refine post_enter hrun ?_
        refine (htri B σ g w (va ++ c.args.map ρ ++ vb) hh hrd hI hB hfree ?_).mono ?_
        · obtain ⟨e1, e2, e3⟩ := den_map (E := E) (σ := σ) (g := g) (T := T) (ρ := ρ) (xs := c.args) (fun x hm => hx x (by simp [ho, Op.operands, Call.operands, hc] at hm ⊢; exact .inr hm))
          have l1 : DenL E σ g a va.toList := ⟨by simp [hsa], fun j sv v h1 h2 => by
            have := hca j (List.getElem?_eq_some_iff.1 h1).1
            rw [show va.toList[j]? = va[j]? by simp, this] at h2
            cases h2; exact hda j sv h1⟩
          have l2 : DenL E σ g (c.args.toList.map (ev T)) (c.args.map ρ).toList := ⟨by simp, fun j sv v h1 h2 => by
            have := e2 j (List.getElem?_eq_some_iff.1 h1).1
            rw [show (c.args.map ρ).toList[j]? = (c.args.map ρ)[j]? by simp, this] at h2
            cases h2; exact e3 j sv h1⟩
          have l3 : DenL E σ g b vb.toList := ⟨by simp [hsb], fun j sv v h1 h2 => by
            have := hcb j (List.getElem?_eq_some_iff.1 h1).1
            rw [show vb.toList[j]? = vb[j]? by simp, this] at h2
            cases h2; exact hdb j sv h1⟩
          rw [Array.toList_append, Array.toList_append]
          exact (l1.append l2).append l3
        · rintro en w' ⟨u, rfl, h1⟩
          exact ⟨u, rfl, h1⟩
      · exact hk.elim
    · exact hk.elim
  all_goals (rw [ho] at hk; exact hk.elim)

theorem callF_good (hF : FnsOk E F) {rec : Nat → Nat → Code → Fr Y → Hp Y → Nat → List Nat → Kont Y → Prop} {f : Nat} {args : List (SV Y)} {h : Hp Y} {i : Nat} {k : Res Y → Prop} (hk : callF E F rec f args h i k) : FnGood E.P f := by
  unfold callF at hk
  split at hk
  · exact hF.sumG f _ ‹_›
  · split at hk
    · exact hF.fnG f _ ‹_›
    · exact hk.elim

/-- a loop that is walked round by round -/
def RoundsTri (E : Eng Y) (N : Nat) (c : Code) (T : Fr Y) (h : Hp Y) (i : Nat) (e : Exit) (T' : Fr Y) (h' : Hp Y) (i' : Nat) (ms' : List Nat) : Prop :=
  ∃ n, ∀ (B : Nat) (σ : Pl) (g : GH) (w : World) (a : Act) (Q : Exit → Act → World → Prop), Inv E B σ h g w → B ≤ w.heap.size → (∀ b, i ≤ b → b < i' → σ b = none) → FrOk E σ g T a → a.tmps.size = N →
    (∀ a' w', Aft E B N i i' ms' σ g w a.defers T' h' a' w' → Q e a' w') → Code.rounds E.P c Q n a w

theorem mods_trans {h h1 : Hp Y} {i i1 i2 : Nat} {m1 m2 : List Nat} (hD : Dom h i h1 i1) (hi : i ≤ i1) (hi2 : i1 ≤ i2) (hm1 : ModsOk h i i1 m1) (hm2 : ModsOk h1 i1 i2 m2) : ModsOk h i i2 (m2 ++ m1) := by
  intro b hb
  rcases List.mem_append.1 hb with hb | hb
  · rcases hm2 b hb with c | c
    · rcases hD.2 b c with c' | c'
      · exact .inl c'
      · right; have := hD.1 b c; omega
    · right; omega
  · rcases hm1 b hb with c | c
    · exact .inl c
    · right; omega
theorem Dom.trans {h h1 h2 : Hp Y} {i i1 i2 : Nat} (hi : i ≤ i1) (hD : Dom h i h1 i1) (hD2 : Dom h1 i1 h2 i2) : Dom h i h2 i2 :=
  ⟨hD2.1, fun b hb => by
    rcases hD2.2 b hb with c | c
    · exact hD.2 b c
    · right; omega⟩

/-- one piece behind another -/
theorem CodeTri.seq {N : Nat} {c1 c2 : Code} {T T1 T2 : Fr Y} {h h1 h2 : Hp Y} {i i1 i2 : Nat} {m1 m2 : List Nat} {e : Exit} (t1 : CodeTri E N c1 T h i .normal T1 h1 i1 m1) (t2 : CodeTri E N c2 T1 h1 i1 e T2 h2 i2 m2) (hi : i ≤ i1) (hi2 : i1 ≤ i2) (hm : ∃ m, m2 = m ++ m1) : CodeTri E N (.seq c1 c2) T h i e T2 h2 i2 m2 := by
  intro B σ g w a Q hI hB hfree hF hN hQ
  refine wp_seq (t1 B σ g w a _ hI hB (fun b h1 h2 => hfree b h1 (by omega)) hF hN ?_)
  intro a1 w1 hA
  show c2.wp E.P Q a1 w1
  obtain ⟨σ1, g1, k1, k2, k3, k4, k5⟩ := hA.trans hi hi2 hB hfree hm
  exact t2 B σ1 g1 w1 a1 Q k1 k2 k3 k4 hA.sz fun a2 w2 hA2 => hQ a2 w2 (k5 _ _ _ _ hA2)
theorem CodeTri.seq_out {N : Nat} {c1 c2 : Code} {T T1 : Fr Y} {h h1 : Hp Y} {i i1 : Nat} {m1 : List Nat} {e : Exit} (he : e ≠ .normal) (t1 : CodeTri E N c1 T h i e T1 h1 i1 m1) : CodeTri E N (.seq c1 c2) T h i e T1 h1 i1 m1 := by
  intro B σ g w a Q hI hB hfree hF hN hQ
  refine wp_seq (t1 B σ g w a _ hI hB hfree hF hN ?_)
  intro a1 w1 hA
  have := hQ a1 w1 hA
  cases e <;> first | exact this | exact absurd rfl he
theorem RoundsTri.more {N : Nat} {c : Code} {T T1 T2 : Fr Y} {h h1 h2 : Hp Y} {i i1 i2 : Nat} {m1 m2 : List Nat} {e : Exit} (t1 : CodeTri E N c T h i .normal T1 h1 i1 m1) (t2 : RoundsTri E N c T1 h1 i1 e T2 h2 i2 m2) (hi : i ≤ i1) (hi2 : i1 ≤ i2) (hm : ∃ m, m2 = m ++ m1) : RoundsTri E N c T h i e T2 h2 i2 m2 := by
  obtain ⟨n, t2⟩ := t2
  refine ⟨n + 1, fun B σ g w a Q hI hB hfree hF hN hQ => ?_⟩
  rw [rounds_succ]
  refine t1 B σ g w a _ hI hB (fun b h1 h2 => hfree b h1 (by omega)) hF hN ?_
  intro a1 w1 hA
  obtain ⟨σ1, g1, k1, k2, k3, k4, k5⟩ := hA.trans hi hi2 hB hfree hm
  exact t2 B σ1 g1 w1 a1 Q k1 k2 k3 k4 hA.sz fun a2 w2 hA2 => hQ a2 w2 (k5 _ _ _ _ hA2)
theorem RoundsTri.out {N : Nat} {c : Code} {T T1 : Fr Y} {h h1 : Hp Y} {i i1 : Nat} {m1 : List Nat} {e : Exit} (he : e ≠ .normal) (t1 : CodeTri E N c T h i e T1 h1 i1 m1) : RoundsTri E N c T h i e T1 h1 i1 m1 := by
  refine ⟨1, fun B σ g w a Q hI hB hfree hF hN hQ => ?_⟩
  rw [rounds_succ]
  refine t1 B σ g w a _ hI hB hfree hF hN ?_
  intro a1 w1 hA
  have := hQ a1 w1 hA
  cases e <;> first | exact this | exact absurd rfl he
theorem RoundsTri.loop {N : Nat} {c : Code} {T T1 : Fr Y} {h h1 : Hp Y} {i i1 : Nat} {m1 : List Nat} {e : Exit} (t : RoundsTri E N c T h i e T1 h1 i1 m1) : CodeTri E N (.loop c) T h i e T1 h1 i1 m1 := by
  obtain ⟨n, t⟩ := t
  exact fun B σ g w a Q hI hB hfree hF hN hQ => wp_loop_rounds n (t B σ g w a Q hI hB hfree hF hN hQ)

theorem exit_ne {e : Exit} {α : Prop} {k : Exit → Prop} (h : match e with | .normal => α | e => k e) : (e = .normal ∧ α) ∨ (e ≠ .normal ∧ k e) := by
  cases e <;> first | exact .inl ⟨rfl, h⟩ | exact .inr ⟨by simp, h⟩

theorem vc_ok (hE : EngOk E) (hF : FnsOk E F) : ∀ (n f N : Nat) (c : Code), VcOk E N c (vc E F n f N c) ∧
    ∀ b, c = .loop b → lpOf F f b = none → ∀ T h i ms K, DomLt h i → vc E F n f N c T h i ms K → ∃ e T' h' i' ms', K e T' h' i' ms' ∧ i ≤ i' ∧ Dom h i h' i' ∧ (∃ m, ms' = m ++ ms ∧ ModsOk h i i' m) ∧ RoundsTri E N b T h i e T' h' i' ms' := by
  intro n
  induction n with
  | zero => intro f N c; exact ⟨fun T h i ms K _ hk => hk.elim, fun b _ _ T h i ms K _ hk => hk.elim⟩
  | succ n ih =>
    intro f N c
    have hcall : CallOk E (callF E F (vc E F n)) := callF_ok hE hF fun f N c => (ih f N c).1
    have unf : ∀ T h i ms K, vc E F (n + 1) f N c T h i ms K = vcB E F (vc E F n) f N c T h i ms K := fun T h i ms K => rfl
    -- loops round by round
    have rounds : ∀ b, c = .loop b → lpOf F f b = none → ∀ T h i ms K, DomLt h i → vc E F (n + 1) f N c T h i ms K → ∃ e T' h' i' ms', K e T' h' i' ms' ∧ i ≤ i' ∧ Dom h i h' i' ∧ (∃ m, ms' = m ++ ms ∧ ModsOk h i i' m) ∧ RoundsTri E N b T h i e T' h' i' ms' := by
      rintro b rfl hl T h i ms K hD hk
      rw [unf] at hk
      simp only [vcB, vcRgn, vcSeq, vcCond, vcBlock, vcLoop] at hk
      rw [hl] at hk
      obtain ⟨e, T1, h1, i1, ms1, hK, hi, hDo, ⟨m, rfl, hM⟩, t1⟩ := (ih f N b).1 T h i ms _ hD hk
      rcases exit_ne hK with ⟨rfl, hK⟩ | ⟨he, hK⟩
      · obtain ⟨e2, T2, h2, i2, ms2, hK2, hi2, hDo2, ⟨m', rfl, hM'⟩, t2⟩ := (ih f N (.loop b)).2 b rfl hl T1 h1 i1 _ _ hDo.1 hK
        exact ⟨e2, T2, h2, i2, _, hK2, by omega, hDo.trans hi hDo2, ⟨m' ++ m, by simp, mods_trans hDo hi hi2 hM hM'⟩, RoundsTri.more t1 t2 hi hi2 ⟨m', rfl⟩⟩
      · exact ⟨e, T1, h1, i1, _, hK, hi, hDo, ⟨m, rfl, hM⟩, RoundsTri.out he t1⟩
    refine ⟨fun T h i ms K hD hk => ?_, rounds⟩
    have hk0 := hk
    rw [unf] at hk
    cases hc : c with
    | skip =>
      subst hc
      refine ⟨.normal, T, h, i, ms, hk, Nat.le_refl _, ⟨hD, fun b hb => .inl hb⟩, ⟨[], rfl, fun b hb => by simp at hb⟩, fun B σ g w a Q hI hB hfree hF hN hQ => wp_skip (hQ a w ⟨rfl, hN, σ, g, by rw [Nat.sub_self]; exact (Stp.refl i σ g w).weaken (by simp), hI, hF⟩)⟩
    | exit id =>
      subst hc
      refine ⟨.exit id, T, h, i, ms, hk, Nat.le_refl _, ⟨hD, fun b hb => .inl hb⟩, ⟨[], rfl, fun b hb => by simp at hb⟩, fun B σ g w a Q hI hB hfree hF hN hQ => wp_exit (hQ a w ⟨rfl, hN, σ, g, by rw [Nat.sub_self]; exact (Stp.refl i σ g w).weaken (by simp), hI, hF⟩)⟩
    | ret =>
      subst hc
      refine ⟨.ret, T, h, i, ms, hk, Nat.le_refl _, ⟨hD, fun b hb => .inl hb⟩, ⟨[], rfl, fun b hb => by simp at hb⟩, fun B σ g w a Q hI hB hfree hF hN hQ => wp_ret (hQ a w ⟨rfl, hN, σ, g, by rw [Nat.sub_self]; exact (Stp.refl i σ g w).weaken (by simp), hI, hF⟩)⟩
    | region id ops draw =>
      subst hc
      simp only [vcB, vcRgn, vcSeq, vcCond, vcBlock, vcLoop] at hk
      split at hk
      · split at hk
        · rename_i d _ hj
          obtain ⟨Q, hr, hQt, hQf⟩ := hk
          obtain ⟨T', h', i', ms', ⟨b, hQ, rfl, rfl, rfl, hFr⟩, hi, hDo, hm, t⟩ := rgn_ok hE (fun o T h i k hD hk => step_ok hE hcall (fun _ _ _ _ _ hk => callF_good hF hk) o T h i k hD hk) ops.toList ops.toList T h i ms _ hD (join_ok hj hr)
          have hK : K .normal (boolT b [d] (maskT (dstsOf ops.toList) T)) h' i' ms' := by
            cases b
            · exact hQf hQ
            · exact hQt hQ
          refine ⟨.normal, _, h', i', ms', hK, hi, hDo, hm, fun B σ g w a Q hI hB hfree hF hN hQ => wp_region_list ?_⟩
          have := t B σ g w a Q hI hB hfree hF hN fun a' w' ⟨k1, k2, σ', g', k3, k4, k5⟩ => hQ a' w' ⟨k1, k2, σ', g', k3, k4, hFr _ _ _ k5⟩
          simpa using this
        rename_i hno
        obtain ⟨T', h', i', ms', hK, hi, hDo, hm, t⟩ := rgn_ok hE (fun o T h i k hD hk => step_ok hE hcall (fun _ _ _ _ _ hk => callF_good hF hk) o T h i k hD hk) ops.toList ops.toList T h i ms _ hD hk
        refine ⟨.normal, T', h', i', ms', hK, hi, hDo, hm, fun B σ g w a Q hI hB hfree hF hN hQ => wp_region_list ?_⟩
        have := t B σ g w a Q hI hB hfree hF hN hQ
        simpa using this
      · split at hk
        · rename_i hok
          obtain ⟨ds, hp, hK, hlt⟩ := rgnD_path (fun o T h i k hD hk => step_ok hE hcall (fun _ _ _ _ _ hk => callF_good hF hk) o T h i k hD hk) ops.toList (masks ops.toList []) ops.toList 0 T h i ms [] _ hD hk
          obtain ⟨hDo, hms⟩ := POk_end hD hp
          refine ⟨.normal, _, _, _, _, hK, (POk_i hp).1, hDo, hms ms, fun B σ g w a Q hI hB hfree hF hN hQ => ?_⟩
          have := rgnD_run hE.mix hok hp hlt id B σ g w a Q hI hB hfree hF hN hQ
          simpa using this
        · exact hk.elim
    | seq x y =>
      subst hc
      simp only [vcB, vcRgn, vcSeq, vcCond, vcBlock, vcLoop] at hk
      obtain ⟨e, T1, h1, i1, ms1, hK, hi, hDo, ⟨m, rfl, hM⟩, t1⟩ := (ih f N x).1 T h i ms _ hD hk
      rcases exit_ne hK with ⟨rfl, hK⟩ | ⟨he, hK⟩
      · obtain ⟨e2, T2, h2, i2, ms2, hK2, hi2, hDo2, ⟨m', rfl, hM'⟩, t2⟩ := (ih f N y).1 T1 h1 i1 _ _ hDo.1 hK
        exact ⟨e2, T2, h2, i2, _, hK2, by omega, hDo.trans hi hDo2, ⟨m' ++ m, by simp, mods_trans hDo hi hi2 hM hM'⟩, CodeTri.seq t1 t2 hi hi2 ⟨m', rfl⟩⟩
      · exact ⟨e, T1, h1, i1, _, hK, hi, hDo, ⟨m, rfl, hM⟩, CodeTri.seq_out he t1⟩
    | cond x y z =>
      subst hc
      simp only [vcB, vcRgn, vcSeq, vcCond, vcBlock, vcLoop] at hk
      split at hk
      · rename_i l v hx
        have hk := split_of hk
        have sel : ∀ σ g a, FrOk E σ g T a → a.eval x = .bool v := by
          intro σ g a hF
          have := hF.ev x
          rw [hx] at this
          generalize a.eval x = u at this
          cases this; rfl
        cases v with
        | true =>
          obtain ⟨e, T1, h1, i1, ms1, hK, hi, hDo, hm, t1⟩ := (ih f N y).1 T h i ms _ hD hk
          exact ⟨e, T1, h1, i1, ms1, hK, hi, hDo, hm, fun B σ g w a Q hI hB hfree hF hN hQ => wp_cond_true (sel σ g a hF) (t1 B σ g w a Q hI hB hfree hF hN hQ)⟩
        | false =>
          obtain ⟨e, T1, h1, i1, ms1, hK, hi, hDo, hm, t1⟩ := (ih f N z).1 T h i ms _ hD hk
          exact ⟨e, T1, h1, i1, ms1, hK, hi, hDo, hm, fun B σ g w a Q hI hB hfree hF hN hQ => wp_cond_false (sel σ g a hF) (t1 B σ g w a Q hI hB hfree hF hN hQ)⟩
      · exact hk.elim
    | block id b =>
      subst hc
      simp only [vcB, vcRgn, vcSeq, vcCond, vcBlock, vcLoop] at hk
      obtain ⟨e, T1, h1, i1, ms1, hK, hi, hDo, hm, t1⟩ := (ih f N b).1 T h i ms _ hD hk
      by_cases hex : e = .exit id
      · subst hex
        have hK' : K .normal T1 h1 i1 ms1 := by
          simp only at hK
          have : Nat.beq id id = true := by simp
          rw [this] at hK; exact hK
        refine ⟨.normal, T1, h1, i1, ms1, hK', hi, hDo, hm, fun B σ g w a Q hI hB hfree hF hN hQ => wp_block (t1 B σ g w a _ hI hB hfree hF hN fun a1 w1 hA => ?_)⟩
        show (if id = id then Q .normal a1 w1 else _)
        rw [if_pos rfl]; exact hQ a1 w1 hA
      · have hK' : K e T1 h1 i1 ms1 := by
          cases e with
          | exit j =>
            simp only at hK
            have : Nat.beq j id = false := by rw [← Bool.not_eq_true, Nat.beq_eq]; rintro rfl; exact hex rfl
            rw [this] at hK; exact hK
          | _ => exact hK
        refine ⟨e, T1, h1, i1, ms1, hK', hi, hDo, hm, fun B σ g w a Q hI hB hfree hF hN hQ => wp_block (t1 B σ g w a _ hI hB hfree hF hN fun a1 w1 hA => ?_)⟩
        have := hQ a1 w1 hA
        cases e with
        | exit j =>
          show (if j = id then _ else Q (.exit j) a1 w1)
          rw [if_neg (by rintro rfl; exact hex rfl)]; exact this
        | _ => exact this
    | loop b =>
      cases hl : lpOf F f b with
      | none =>
        obtain ⟨e, T1, h1, i1, ms1, hK, hi, hDo, hm, t⟩ := rounds b hc hl T h i ms K hD hk0
        exact ⟨e, T1, h1, i1, ms1, hK, hi, hDo, hm, t.loop⟩
      | some L =>
        subst hc
        simp only [vcB, vcRgn, vcSeq, vcCond, vcBlock, vcLoop] at hk
        rw [hl] at hk
        have hL : LoopOk E L := by
          unfold lpOf at hl
          split at hl
          · exact hF.loop _ _ _ hl
          · cases hl
        exact hL N b _ (ih f N b).1 T h i ms K hD hk
    | _ => subst hc; exact hk.elim
end
end Go.Proofs.YtcaomfbcchemnaaDoor
