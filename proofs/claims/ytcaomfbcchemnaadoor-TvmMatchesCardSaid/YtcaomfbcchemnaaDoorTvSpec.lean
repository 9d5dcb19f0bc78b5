/- What chapter 21's machine does, in plain Lean: no program in sight. -/
import Derived.Test.YtcaomfbcchemnaaDoorArith
namespace Go.Proofs.YtcaomfbcchemnaaDoor
set_option linter.unusedVariables false
set_option linter.unusedSimpArgs false

structure Ins where
  op : Int
  n : Int
  m : Int
  deriving DecidableEq
structure Env where
  has : Int
  v0 : Int
  v1 : Int
  v2 : Int
  v3 : Int
  v4 : Int
  v5 : Int
  v6 : Int
  v7 : Int
  v8 : Int
  v9 : Int
  v10 : Int
  v11 : Int
  v12 : Int
  v13 : Int
  v14 : Int
  v15 : Int
def Env.v (e : Env) : List Int := [e.v0, e.v1, e.v2, e.v3, e.v4, e.v5, e.v6, e.v7, e.v8, e.v9, e.v10, e.v11, e.v12, e.v13, e.v14, e.v15]
structure St where
  pc : Int
  fuel : Int
  status : Int
  clause : Int
  stack : List Int
def St.zero : St := ⟨0, 0, 0, 0, []⟩
def St.start (f : Int) : St := ⟨0, f, 0, 0, []⟩

/-- how many numbers an instruction has, and the greatest one -/
def argN (op : Int) : Int × Int := if op = 1 then (1, 9007199254740992) else if op = 13 then (1, 9007199254740992) else if op = 14 then (1, 9007199254740992) else if op = 15 then (1, 9007199254740992) else if op = 2 then (1, 15) else if op = 12 then (2, 9007199254740992) else (0, 0)
/-- well-formed -/
def formedF (x : Ins) : Bool :=
  if x.op = 1 ∨ x.op = 13 ∨ x.op = 14 ∨ x.op = 15 then decide (0 ≤ x.n ∧ x.n ≤ 9007199254740992 ∧ x.m = 0)
  else if x.op = 2 then decide (0 ≤ x.n ∧ x.n ≤ 15 ∧ x.m = 0)
  else if x.op = 12 then decide (0 ≤ x.n ∧ x.n ≤ 9007199254740992 ∧ 0 ≤ x.m ∧ x.m ≤ 9007199254740992)
  else decide (3 ≤ x.op ∧ x.op ≤ 16 ∧ x.n = 0 ∧ x.m = 0)
/-- how many elements it pops and pushes -/
def eff (op : Int) : Int × Int :=
  if op = 1 ∨ op = 2 then (0, 1) else if op = 12 then (1, 1) else if op = 13 ∨ op = 15 then (1, 0) else if op = 14 ∨ op = 16 then (0, 0) else (2, 1)
def needsF (op : Int) : Int := if op = 12 ∨ op = 13 ∨ op = 15 then 1 else if 3 ≤ op ∧ op ≤ 11 then 2 else 0
/-- the instructions with which it can continue -/
def nextF (i : Int) (x : Ins) : List Int := if x.op = 15 ∨ x.op = 16 then [] else if x.op = 14 then [x.n] else if x.op = 13 then [x.n, i + 1] else [i + 1]
def setF (len i after : Int) : List Int → List Int → Option (List Int)
  | [], D => some D
  | n :: r, D => if n ≤ i ∨ len ≤ n ∨ (0 ≤ D.getD n.toNat 0 ∧ D.getD n.toNat 0 ≠ after) then none else setF len i after r (D.set n.toNat after)
/-- a round of Verify -/
def rndF (len : Int) (i : Nat) (x : Ins) (D : List Int) (m : Int) : Option (List Int × Int) :=
  if D.getD i 0 < 0 then some (D, m)
  else if D.getD i 0 < (eff x.op).1 ∨ (x.op = 15 ∧ D.getD i 0 ≠ 1) ∨ (x.op = 16 ∧ D.getD i 0 ≠ 0) then none
  else match setF len i (D.getD i 0 - (eff x.op).1 + (eff x.op).2) (nextF i x) D with
    | none => none
    | some D' => some (D', max (max m (D.getD i 0)) (D.getD i 0 - (eff x.op).1 + (eff x.op).2))
def fromF (len : Int) : List Ins → Nat → List Int → Int → Option (List Int × Int)
  | [], _, D, m => some (D, m)
  | x :: r, i, D, m => match rndF len i x D m with | none => none | some (D', m') => fromF len r (i + 1) D' m'
def endF : Option (List Int × Int) → Int × Int
  | none => (0, 200)
  | some (_, m) => if 64 < m then (0, 2) else (m, 0)
def deps (c : List Ins) : List Int := (List.replicate c.length (-1)).set 0 0
/-- Verify -/
def verF (c : List Ins) : Int × Int :=
  if 4096 < c.length then (0, 2)
  else if c.length = 0 ∨ c.all formedF = false then (0, 200)
  else endF (fromF c.length c 0 (deps c) 0)

def binF (op a b : Int) : Int × Int :=
  if op = 3 then addF a b else if op = 4 then subF a b else if op = 5 then mulF a b else if op = 6 then (min a b, 0) else if op = 7 then (max a b, 0)
  else if op = 8 then divF a b 8 else if op = 9 then divF a b 9 else if op = 10 then divF a b 10 else (if a < b then 1 else 0, 0)
def topF (l : List Int) (i : Nat) : Int := l.getD (l.length - 1 - i) 0
def St.pops (s : St) (n : Nat) (l : List Int) : St := { s with stack := s.stack.take (s.stack.length - n) ++ l, pc := s.pc + 1 }
/-- an instruction -/
def execF (x : Ins) (v : Env) (s : St) (below : Int) : St × Int :=
  if (s.stack.length : Int) < needsF x.op then (s, 200)
  else if x.op = 1 then (if 64 ≤ below + s.stack.length then (s, 200) else (s.pops 0 [x.n], 0))
  else if x.op = 2 then
    (if 64 ≤ below + s.stack.length then (s, 200) else if (v.has / 2 ^ x.n.toNat) % 2 = 0 then (s, 181)
     else if v.v.getD x.n.toNat 0 < -9007199254740992 ∨ 9007199254740992 < v.v.getD x.n.toNat 0 then (s, 3) else (s.pops 0 [v.v.getD x.n.toNat 0], 0))
  else if x.op = 12 then (s.pops 1 [if x.n ≤ topF s.stack 0 ∧ topF s.stack 0 ≤ x.m then 1 else 0], 0)
  else if x.op = 13 then ({ s.pops 1 [] with pc := if topF s.stack 0 = 0 then x.n else s.pc + 1 }, 0)
  else if x.op = 14 then ({ s with pc := x.n }, 0)
  else if x.op = 15 then ({ s with status := 1, clause := x.n }, 0)
  else if x.op = 16 then (s, 180)
  else if (binF x.op (topF s.stack 1) (topF s.stack 0)).2 ≠ 0 then (s, (binF x.op (topF s.stack 1) (topF s.stack 0)).2)
  else (s.pops 2 [(binF x.op (topF s.stack 1) (topF s.stack 0)).1], 0)
/-- a step -/
def advF (c : List Ins) (v : Env) (s : St) (below : Int) : St :=
  if s.fuel = 0 then { s with status := 220 }
  else match c[s.pc.toNat]? with
    | none => s
    | some x =>
      if (execF x v { s with fuel := s.fuel - 1 } below).2 = 0 then (execF x v { s with fuel := s.fuel - 1 } below).1
      else { s with fuel := s.fuel - 1, status := 10 + (execF x v { s with fuel := s.fuel - 1 } below).2 }
def readyF (c : List Ins) (s : St) (below : Int) : Int :=
  if s.status ≠ 0 then 211 else if (verF c).2 ≠ 0 then (verF c).2
  else if s.pc < 0 ∨ c.length ≤ s.pc ∨ s.fuel < 0 ∨ 32768 < s.fuel ∨ s.clause ≠ 0 ∨ below < 0 ∨ 64 < below ∨ 64 - below < s.stack.length then 1 else 0
def stepF (c : List Ins) (v : Env) (s : St) : St × Int := if readyF c s 0 ≠ 0 then (.zero, readyF c s 0) else (advF c v s 0, 0)
def startF (fuel : Int) : St × Int := if fuel < 0 ∨ 32768 < fuel then (.zero, 1) else ((St.start (fuel)), 0)
/-- steps until it halts -/
def itF (c : List Ins) (v : Env) : Nat → St → St
  | 0, s => s
  | n + 1, s => if s.status = 0 then itF c v n (advF c v s 0) else s
def runF (c : List Ins) (v : Env) (fuel : Int) : St × Int :=
  if (verF c).2 ≠ 0 then (.zero, (verF c).2) else if (startF fuel).2 ≠ 0 then (.zero, (startF fuel).2) else (itF c v (fuel.toNat + 1) (St.start (fuel)), 0)
def resultF (s : St) : Int × Int × Int :=
  if s.status = 1 ∧ 0 < s.stack.length then (s.stack.getD (s.stack.length - 1) 0, s.clause, 0) else if 10 < s.status then (0, 0, Go.IntKind.i64.wrap (s.status - 10)) else (0, 0, 1)
def sameF (a b : St) : Bool := decide (a.pc = b.pc ∧ a.fuel = b.fuel ∧ a.status = b.status ∧ a.clause = b.clause ∧ a.stack = b.stack)

/-! Verified programs. -/
/-- how deep the stack is at each instruction -/
structure Safe (c : List Ins) (D : List Int) : Prop where
  len : D.length = c.length
  zero : D[0]? = some 0
  short : c.length ≤ 4096
  ne : 0 < c.length
  formed : ∀ (i : Nat) x, c[i]? = some x → formedF x = true
  ok : ∀ (i : Nat) x d, c[i]? = some x → D[i]? = some d → 0 ≤ d → (eff x.op).1 ≤ d ∧ (x.op = 15 → d = 1) ∧ (x.op = 16 → d = 0) ∧ d ≤ 64 ∧ d - (eff x.op).1 + (eff x.op).2 ≤ 64 ∧
    ∀ n ∈ nextF i x, (i : Int) < n ∧ n < c.length ∧ D[n.toNat]? = some (d - (eff x.op).1 + (eff x.op).2)

theorem setF_spec {len i after : Int} (hi : 0 ≤ i) (ha : 0 ≤ after) : ∀ {ns D D' : List Int}, (D.length : Int) = len → setF len i after ns D = some D' →
    D'.length = D.length ∧ (∀ n ∈ ns, i < n ∧ n < len ∧ D'[n.toNat]? = some after) ∧ (∀ (j : Nat) d, D[j]? = some d → 0 ≤ d → D'[j]? = some d) ∧ (∀ (j : Nat), (j : Int) ≤ i → D'[j]? = D[j]?)
  | [], D, D', _, h => by
    simp only [setF, Option.some.injEq] at h
    subst h
    exact ⟨rfl, by simp, fun j d h _ => h, fun j _ => rfl⟩
  | n :: r, D, D', hD, h => by
    simp only [setF] at h
    split at h
    · cases h
    · rename_i hc
      have h1 : i < n := by omega
      have h2 : n < len := by omega
      have h3 : ¬ (0 ≤ D.getD n.toNat 0 ∧ D.getD n.toNat 0 ≠ after) := fun hh => hc (.inr (.inr hh))
      have hlt : n.toNat < D.length := by omega
      obtain ⟨k1, k2, k3, k4⟩ := setF_spec hi ha (by rw [List.length_set]; exact hD) h
      have keep : (D.set n.toNat after)[n.toNat]? = some after := by simp [hlt]
      refine ⟨by simpa using k1, ?_, ?_, ?_⟩
      · intro q hq
        rcases List.mem_cons.1 hq with rfl | hq
        · exact ⟨h1, h2, k3 _ _ keep ha⟩
        · exact k2 q hq
      · intro j d hj hd
        refine k3 j d ?_ hd
        by_cases e : j = n.toNat
        · subst e
          rw [keep]
          have hg : D.getD n.toNat 0 = d := by simp [List.getD_eq_getElem?_getD, hj]
          rw [hg] at h3
          have : d = after := Decidable.byContradiction fun hh => h3 ⟨hd, hh⟩
          rw [this]
        · rw [List.getElem?_set_ne (Ne.symm e)]; exact hj
      · intro j hj
        rw [k4 j hj, List.getElem?_set_ne (by omega)]

theorem setF_swap {len i after a b : Int} {D : List Int} (ha : 0 ≤ after) (hi : 0 ≤ i) (hD : (D.length : Int) = len) : setF len i after [a, b] D = setF len i after [b, a] D := by
  by_cases e : a.toNat = b.toNat
  · simp only [setF]
    by_cases h1 : a ≤ i
    · simp only [h1, true_or, if_true]; split <;> rfl
    · by_cases h2 : b ≤ i
      · simp only [h2, true_or, if_true]; split <;> rfl
      · have : a = b := by omega
        subst this; rfl
  · have g1 : (D.set a.toNat after).getD b.toNat 0 = D.getD b.toNat 0 := by simp [List.getD_eq_getElem?_getD, List.getElem?_set_ne e]
    have g2 : (D.set b.toNat after).getD a.toNat 0 = D.getD a.toNat 0 := by simp [List.getD_eq_getElem?_getD, List.getElem?_set_ne (Ne.symm e)]
    simp only [setF, g1, g2]
    by_cases p : a ≤ i ∨ len ≤ a ∨ (0 ≤ D.getD a.toNat 0 ∧ D.getD a.toNat 0 ≠ after) <;> by_cases q : b ≤ i ∨ len ≤ b ∨ (0 ≤ D.getD b.toNat 0 ∧ D.getD b.toNat 0 ≠ after)
    · rw [if_pos p, if_pos q]
    · rw [if_pos p, if_neg q, if_pos p]
    · rw [if_neg p, if_pos q, if_pos q]
    · rw [if_neg p, if_neg q, if_neg q, if_neg p, List.set_comm _ _ e]

theorem eff_pos (op : Int) : 0 ≤ (eff op).1 ∧ 0 ≤ (eff op).2 := by
  unfold eff
  repeat' split
  all_goals simp

/-- what is so far -/
structure SafeTo (c : List Ins) (D : List Int) (m : Int) (k : Nat) : Prop where
  ok : ∀ (i : Nat) x d, i < k → c[i]? = some x → D[i]? = some d → 0 ≤ d → (eff x.op).1 ≤ d ∧ (x.op = 15 → d = 1) ∧ (x.op = 16 → d = 0) ∧ d ≤ m ∧ d - (eff x.op).1 + (eff x.op).2 ≤ m ∧
    ∀ n ∈ nextF i x, (i : Int) < n ∧ n < c.length ∧ D[n.toNat]? = some (d - (eff x.op).1 + (eff x.op).2)
theorem fromF_safe {c : List Ins} : ∀ {r : List Ins} {k : Nat} {D D' : List Int} {m m' : Int}, c.drop k = r → D.length = c.length → SafeTo c D m k → fromF c.length r k D m = some (D', m') →
    D'.length = c.length ∧ SafeTo c D' m' c.length ∧ m ≤ m' ∧ (D[0]? = some 0 → D'[0]? = some 0)
  | [], k, D, D', m, m', hr, hD, hs, h => by
    simp only [fromF, Option.some.injEq, Prod.mk.injEq] at h
    obtain ⟨rfl, rfl⟩ := h
    have hk : c.length ≤ k := by simpa using hr
    exact ⟨hD, ⟨fun i x d hi => hs.ok i x d (by omega)⟩, Int.le_refl _, id⟩
  | x :: r, k, D, D', m, m', hr, hD, hs, h => by
    have hx : c[k]? = some x := by
      have := congrArg (·[0]?) hr
      simpa using this
    have hk : k < c.length := (List.getElem?_eq_some_iff.1 hx).1
    have hr' : c.drop (k + 1) = r := by
      rw [← List.tail_drop, hr]; rfl
    simp only [fromF] at h
    split at h
    · cases h
    · rename_i D1 m1 h1
      have key : D1.length = c.length ∧ SafeTo c D1 m1 (k + 1) ∧ m ≤ m1 ∧ (D[0]? = some 0 → D1[0]? = some 0) := by
        unfold rndF at h1
        split at h1
        · rename_i hd
          simp only [Option.some.injEq, Prod.mk.injEq] at h1
          obtain ⟨rfl, rfl⟩ := h1
          refine ⟨hD, ⟨fun i y d hi hy hd2 h0 => ?_⟩, Int.le_refl _, id⟩
          by_cases e : i = k
          · subst e
            have : D.getD i 0 = d := by simp [List.getD_eq_getElem?_getD, hd2]
            omega
          · exact hs.ok i y d (by omega) hy hd2 h0
        · split at h1
          · cases h1
          · rename_i hd hbad
            split at h1
            · cases h1
            · rename_i D2 h2
              simp only [Option.some.injEq, Prod.mk.injEq] at h1
              obtain ⟨rfl, rfl⟩ := h1
              have hp := eff_pos x.op
              have ha : 0 ≤ D.getD k 0 - (eff x.op).1 + (eff x.op).2 := by omega
              obtain ⟨k1, k2, k3, k4⟩ := setF_spec (by omega) ha (by omega) h2
              refine ⟨by omega, ⟨fun i y d hi hy hd2 h0 => ?_⟩, by omega, fun hz => by rw [k4 0 (by omega)]; exact hz⟩
              by_cases e : i = k
              · subst e
                rw [hx] at hy; cases hy
                rw [k4 i (by omega)] at hd2
                have hg : D.getD i 0 = d := by simp [List.getD_eq_getElem?_getD, hd2]
                subst hg
                refine ⟨by omega, by omega, by omega, by omega, by omega, fun n hn => k2 n hn⟩
              · rw [k4 i (by omega)] at hd2
                obtain ⟨a1, a2, a3, a4, a5, a6⟩ := hs.ok i y d (by omega) hy hd2 h0
                have hp' := eff_pos y.op
                refine ⟨a1, a2, a3, by omega, by omega, fun n hn => ?_⟩
                obtain ⟨b1, b2, b3⟩ := a6 n hn
                exact ⟨b1, b2, k3 _ _ b3 (by omega)⟩
      obtain ⟨q1, q2, q3, q4⟩ := key
      obtain ⟨p1, p2, p3, p4⟩ := fromF_safe hr' q1 q2 h
      exact ⟨p1, p2, by omega, fun hz => p4 (q4 hz)⟩

theorem verF_safe {c : List Ins} (h : (verF c).2 = 0) : ∃ D, Safe c D := by
  unfold verF at h
  split at h
  · simp at h
  · split at h
    · simp at h
    · rename_i h1 h2
      have hne : 0 < c.length := by omega
      have hall : c.all formedF = true := by
        cases hh : c.all formedF
        · exact absurd (.inr hh) h2
        · rfl
      unfold endF at h
      split at h
      · simp at h
      · rename_i D m hf
        have hm : m ≤ 64 := by
          split at h
          · simp at h
          · omega
        obtain ⟨p1, p2, p3, p4⟩ := fromF_safe (c := c) (by simp) (by simp [deps]) ⟨fun i x d hi => by omega⟩ hf
        refine ⟨D, p1, p4 (by simp [deps, hne]), by omega, hne, ?_, ?_⟩
        · intro i x hx
          exact List.all_eq_true.1 hall x (List.mem_of_getElem? hx)
        · intro i x d hx hd h0
          obtain ⟨a1, a2, a3, a4, a5, a6⟩ := p2.ok i x d (List.getElem?_eq_some_iff.1 hx).1 hx hd h0
          exact ⟨a1, a2, a3, by omega, by omega, a6⟩

/-! A step of a verified program. -/
structure Good (c : List Ins) (D : List Int) (s : St) : Prop where
  pc : 0 ≤ s.pc
  lt : s.pc < c.length
  dep : D[s.pc.toNat]? = some (s.stack.length : Int)
  fuel : 0 ≤ s.fuel
  clause : s.clause = 0
  status : s.status = 0
theorem Good.small {c : List Ins} {D : List Int} {s : St} (hc : Safe c D) (h : Good c D s) : s.stack.length ≤ 64 := by
  have hk : s.pc.toNat < c.length := by have := h.lt; have := h.pc; omega
  obtain ⟨a1, a2, a3, a4, a5, a6⟩ := hc.ok s.pc.toNat c[s.pc.toNat] _ (by simp [hk]) h.dep (by omega)
  omega

theorem rngF_err (a : Int) : (rngF a).2 = 0 ∨ (rngF a).2 = 3 := by unfold rngF; split <;> simp
theorem addF_err (a b : Int) : (addF a b).2 = 0 ∨ (addF a b).2 = 3 := by unfold addF; split; exact rngF_err _; simp
theorem subF_err (a b : Int) : (subF a b).2 = 0 ∨ (subF a b).2 = 3 := by unfold subF; split; exact rngF_err _; simp
theorem mulF_err (a b : Int) : (mulF a b).2 = 0 ∨ (mulF a b).2 = 3 := by unfold mulF; split; exact rngF_err _; simp
theorem divF_err (a b m : Int) : (divF a b m).2 = 0 ∨ (divF a b m).2 = 1 ∨ (divF a b m).2 = 3 ∨ (divF a b m).2 = 70 := by
  unfold divF
  repeat' split
  all_goals simp
theorem binF_err (op a b : Int) : (binF op a b).2 = 0 ∨ (binF op a b).2 = 1 ∨ (binF op a b).2 = 3 ∨ (binF op a b).2 = 70 := by
  unfold binF
  have h1 := addF_err a b; have h2 := subF_err a b; have h3 := mulF_err a b
  have h4 := divF_err a b 8; have h5 := divF_err a b 9; have h6 := divF_err a b 10
  repeat' split
  all_goals first | omega | simp

theorem execF_fuel (x : Ins) (v : Env) (s : St) (b f : Int) : execF x v { s with fuel := f } b = ({ (execF x v s b).1 with fuel := f }, (execF x v s b).2) := by
  unfold execF
  dsimp only [St.pops]
  repeat' split
  all_goals simp_all
theorem execF_fuel1 (x : Ins) (v : Env) (s : St) (b : Int) : (execF x v s b).1.fuel = s.fuel := by
  have := execF_fuel x v s b s.fuel
  have h2 := congrArg (·.1.fuel) this
  exact h2
theorem needs_eff {x : Ins} (h : formedF x = true) : needsF x.op = (eff x.op).1 := by
  unfold formedF at h
  unfold needsF eff
  repeat' split at h
  all_goals simp only [decide_eq_true_eq] at h
  all_goals repeat' split
  all_goals first | rfl | (simp only []; omega) | omega
theorem exec_spec {x : Ins} {v : Env} {s : St} (hf : formedF x = true) (h1 : (eff x.op).1 ≤ s.stack.length) (h2 : s.stack.length - (eff x.op).1 + (eff x.op).2 ≤ 64) (hs : s.status = 0) :
    ((execF x v s 0).2 = 0 → ((execF x v s 0).1.status = 0 ∧ (execF x v s 0).1.pc ∈ nextF s.pc x ∧ ((execF x v s 0).1.stack.length : Int) = s.stack.length - (eff x.op).1 + (eff x.op).2 ∧ (execF x v s 0).1.clause = s.clause) ∨
      ((execF x v s 0).1.status = 1 ∧ (execF x v s 0).1.pc = s.pc)) ∧
    ((execF x v s 0).2 ≠ 0 → (execF x v s 0).2 = 1 ∨ (execF x v s 0).2 = 3 ∨ (execF x v s 0).2 = 70 ∨ (execF x v s 0).2 = 180 ∨ (execF x v s 0).2 = 181) := by
  have hn := needs_eff hf
  have hb := binF_err x.op (topF s.stack 1) (topF s.stack 0)
  have hop : 1 ≤ x.op ∧ x.op ≤ 16 := by
    unfold formedF at hf
    repeat' split at hf
    all_goals simp only [decide_eq_true_eq] at hf
    all_goals omega
  unfold execF
  rw [hn, if_neg (by omega)]
  unfold eff at h1 h2 ⊢
  unfold nextF
  by_cases e1 : x.op = 1
  · simp only [e1, true_or, if_true, ite_true] at h1 h2 ⊢
    rw [if_neg (by omega)]
    simp [St.pops, hs]; try omega
  by_cases e2 : x.op = 2
  · simp only [e2, or_true, if_true] at h1 h2 ⊢
    simp only [show ¬ ((2 : Int) = 1) by omega, if_false]
    rw [if_neg (by omega)]
    split
    · simp
    · split
      · simp
      · simp [St.pops, hs]; try omega
  by_cases e12 : x.op = 12
  · simp only [e12] at h1 h2 ⊢
    simp [St.pops, hs] at h1 h2 ⊢; try omega
  by_cases e13 : x.op = 13
  · simp only [e13] at h1 h2 ⊢
    by_cases hz : topF s.stack 0 = 0 <;> simp [St.pops, hs, hz] at h1 h2 ⊢ <;> omega
  by_cases e14 : x.op = 14
  · simp only [e14] at h1 h2 ⊢
    simp [hs]
  by_cases e15 : x.op = 15
  · simp only [e15] at h1 h2 ⊢
    simp
  by_cases e16 : x.op = 16
  · simp only [e16] at h1 h2 ⊢
    simp
  simp only [e1, e2, e12, e13, e14, e15, e16, or_self, if_false] at h1 h2 ⊢
  split
  · rename_i hne
    refine ⟨fun h => absurd h hne, fun _ => ?_⟩
    simp only [] at hne ⊢
    omega
  · simp [St.pops, hs]; try omega

theorem adv_good {c : List Ins} {D : List Int} {v : Env} {s : St} (hc : Safe c D) (h : Good c D s) (hf : 0 < s.fuel) :
    ((advF c v s 0).status = 0 → Good c D (advF c v s 0) ∧ s.pc < (advF c v s 0).pc) ∧ (advF c v s 0).fuel = s.fuel - 1 ∧
    ((advF c v s 0).status ≠ 0 → (advF c v s 0).pc = s.pc ∧ (advF c v s 0).status ≠ 220) ∧
    ∀ d : Int, 0 < s.fuel + d → advF c v { s with fuel := s.fuel + d } 0 = { advF c v s 0 with fuel := s.fuel - 1 + d } := by
  have hk : s.pc.toNat < c.length := by have := h.lt; have := h.pc; omega
  obtain ⟨x, hx⟩ : ∃ x, c[s.pc.toNat]? = some x := ⟨c[s.pc.toNat], by simp [hk]⟩
  obtain ⟨a1, a2, a3, a4, a5, a6⟩ := hc.ok s.pc.toNat _ _ hx h.dep (by omega)
  have hfo := hc.formed _ _ hx
  obtain ⟨p1, p2⟩ := exec_spec (v := v) hfo a1 a5 h.status
  have hF := execF_fuel1 x v s 0
  have e0 : ∀ d : Int, 0 < s.fuel + d → advF c v { s with fuel := s.fuel + d } 0 =
      if (execF x v s 0).2 = 0 then { (execF x v s 0).1 with fuel := s.fuel - 1 + d } else { s with fuel := s.fuel - 1 + d, status := 10 + (execF x v s 0).2 } := by
    intro d hd
    have e := execF_fuel x v s 0 (s.fuel + d - 1)
    unfold advF
    dsimp only
    rw [if_neg (by omega), hx]
    dsimp only
    rw [e]
    dsimp only
    rw [show s.fuel + d - 1 = s.fuel - 1 + d by omega]
  have e1 := e0 0 (by omega)
  simp only [Int.add_zero] at e1
  have e1 : advF c v s 0 = if (execF x v s 0).2 = 0 then { (execF x v s 0).1 with fuel := s.fuel - 1 } else { s with fuel := s.fuel - 1, status := 10 + (execF x v s 0).2 } := e1
  rw [e1]
  by_cases hz : (execF x v s 0).2 = 0
  · rw [if_pos hz]
    rcases p1 hz with ⟨q1, q2, q3, q4⟩ | ⟨q1, q2⟩
    · rw [show ((s.pc.toNat : Nat) : Int) = s.pc by have := h.pc; omega] at a6
      obtain ⟨b1, b2, b3⟩ := a6 _ q2
      have hp := h.pc
      refine ⟨fun _ => ⟨⟨?_, b2, ?_, ?_, ?_, q1⟩, ?_⟩, rfl, fun hh => absurd q1 hh, fun d hd => ?_⟩
      · show 0 ≤ (execF x v s 0).1.pc; omega
      · show D[_]? = _
        rw [b3]; show _ = some ((execF x v s 0).1.stack.length : Int); rw [q3]
      · show 0 ≤ s.fuel - 1; omega
      · show _ = _; rw [q4]; exact h.clause
      · show s.pc < (execF x v s 0).1.pc; omega
      · rw [e0 d hd, if_pos hz]
    · refine ⟨fun hh => ?_, rfl, fun _ => ⟨q2, ?_⟩, fun d hd => ?_⟩
      · have hh : (execF x v s 0).1.status = 0 := hh
        omega
      · show (execF x v s 0).1.status ≠ 220
        omega
      · rw [e0 d hd, if_pos hz]
  · rw [if_neg hz]
    refine ⟨fun hh => ?_, rfl, fun _ => ⟨rfl, ?_⟩, fun d hd => ?_⟩
    · have hh : 10 + (execF x v s 0).2 = 0 := hh
      have := p2 hz; omega
    · show 10 + (execF x v s 0).2 ≠ 220
      have := p2 hz; omega
    · rw [e0 d hd, if_neg hz]

theorem good_start {c : List Ins} {D : List Int} (hc : Safe c D) {f : Int} (hf : 0 ≤ f) : Good c D (St.start (f)) :=
  ⟨Int.le_refl _, by have := hc.ne; show (0 : Int) < _; omega, hc.zero, hf, rfl, rfl⟩
theorem adv_done {c : List Ins} {v : Env} {s : St} (hf : s.fuel = 0) : advF c v s 0 = { s with status := 220 } := by unfold advF; rw [if_pos hf]
theorem itF_done {c : List Ins} {v : Env} {s : St} (h : s.status ≠ 0) : ∀ n, itF c v n s = s
  | 0 => rfl
  | n + 1 => by simp [itF, h]

/-- TvmEnds -/
theorem it_ends {c : List Ins} {D : List Int} {v : Env} (hc : Safe c D) : ∀ (N : Nat) (s : St), Good c D s → (c.length : Int) - s.pc ≤ s.fuel → s.fuel < N →
    (itF c v N s).status ≠ 0 ∧ (itF c v N s).status ≠ 220 ∧ 0 ≤ (itF c v N s).fuel ∧ (itF c v N s).fuel ≤ s.fuel - 1 ∧
    ∀ (d : Int) (M : Nat), 0 ≤ s.fuel + d → s.fuel + d < M →
      (s.fuel + d < s.fuel - (itF c v N s).fuel → (itF c v M { s with fuel := s.fuel + d }).status = 220 ∧ (itF c v M { s with fuel := s.fuel + d }).fuel = 0) ∧
      (s.fuel - (itF c v N s).fuel ≤ s.fuel + d → itF c v M { s with fuel := s.fuel + d } = { itF c v N s with fuel := (itF c v N s).fuel + d })
  | 0, s, hg, _, hN => by have := hg.fuel; omega
  | N + 1, s, hg, hle, hN => by
    have hlt := hg.lt
    have hf : 0 < s.fuel := by omega
    obtain ⟨p1, p2, p3, p4⟩ := adv_good (v := v) hc hg hf
    have eN : itF c v (N + 1) s = itF c v N (advF c v s 0) := by simp [itF, hg.status]
    have eM : ∀ (d : Int) (M : Nat), itF c v (M + 1) { s with fuel := s.fuel + d } = itF c v M (advF c v { s with fuel := s.fuel + d } 0) := fun d M => by simp [itF, hg.status]
    rw [eN]
    by_cases hz : (advF c v s 0).status = 0
    · obtain ⟨g1, g2⟩ := p1 hz
      obtain ⟨q1, q2, q3, q4, q5⟩ := it_ends hc N (advF c v s 0) g1 (by omega) (by omega)
      refine ⟨q1, q2, q3, by omega, fun d M hd hM => ?_⟩
      obtain ⟨M, rfl⟩ : ∃ k, M = k + 1 := ⟨M - 1, by omega⟩
      rw [eM]
      by_cases h0 : s.fuel + d = 0
      · have e3 : itF c v M (advF c v { s with fuel := s.fuel + d } 0) = { s with fuel := s.fuel + d, status := 220 } := by
          rw [adv_done (s := { s with fuel := s.fuel + d }) h0]; exact itF_done (by show (220 : Int) ≠ 0; omega) M
        rw [e3]
        exact ⟨fun _ => ⟨rfl, h0⟩, fun hh => by omega⟩
      · rw [p4 d (by omega), show s.fuel - 1 + d = (advF c v s 0).fuel + d by omega]
        obtain ⟨r1, r2⟩ := q5 d M (by omega) (by omega)
        exact ⟨fun hh => r1 (by omega), fun hh => r2 (by omega)⟩
    · obtain ⟨g1, g2⟩ := p3 hz
      rw [itF_done hz]
      refine ⟨hz, g2, by omega, by omega, fun d M hd hM => ?_⟩
      obtain ⟨M, rfl⟩ : ∃ k, M = k + 1 := ⟨M - 1, by omega⟩
      rw [eM]
      by_cases h0 : s.fuel + d = 0
      · have e3 : itF c v M (advF c v { s with fuel := s.fuel + d } 0) = { s with fuel := s.fuel + d, status := 220 } := by
          rw [adv_done (s := { s with fuel := s.fuel + d }) h0]; exact itF_done (by show (220 : Int) ≠ 0; omega) M
        rw [e3]
        exact ⟨fun _ => ⟨rfl, h0⟩, fun hh => by omega⟩
      · rw [p4 d (by omega), itF_done (by exact hz)]
        exact ⟨fun hh => by omega, fun _ => by rw [p2]⟩

/-! TvmSteps -/
theorem itF_succ {c : List Ins} {v : Env} : ∀ (n : Nat) (s : St), itF c v (n + 1) s = if (itF c v n s).status = 0 then advF c v (itF c v n s) 0 else itF c v n s
  | 0, s => rfl
  | n + 1, s => by
    show (if s.status = 0 then itF c v (n + 1) (advF c v s 0) else s) = _
    rw [itF_succ n (advF c v s 0)]
    by_cases h : s.status = 0
    · simp [itF, h]
    · simp [itF, h]
theorem itF_stop {c : List Ins} {v : Env} {s : St} {i : Nat} (h : (itF c v i s).status ≠ 0) : ∀ k, itF c v (i + k) s = itF c v i s
  | 0 => rfl
  | k + 1 => by
    rw [← Nat.add_assoc, itF_succ, itF_stop h k, if_neg h]
structure Stepping (c : List Ins) (D : List Int) (v : Env) (i : Nat) (s : St) : Prop where
  eq : s = itF c v i (St.start (c.length))
  run : s.status = 0 → Good c D s ∧ (c.length : Int) - s.pc ≤ s.fuel ∧ s.fuel = c.length - i
theorem stepping_start {c : List Ins} {D : List Int} {v : Env} (hc : Safe c D) : Stepping c D v 0 (St.start (c.length)) :=
  ⟨rfl, fun _ => ⟨good_start hc (by omega), by show (c.length : Int) - 0 ≤ c.length; omega, by show (c.length : Int) = c.length - 0; omega⟩⟩
theorem good_ready {c : List Ins} {D : List Int} {s : St} (hc : Safe c D) (hv : (verF c).2 = 0) (h : Good c D s) (hf : s.fuel ≤ 32768) : readyF c s 0 = 0 := by
  have h1 := h.pc; have h2 := h.lt; have h3 := h.fuel; have h4 := h.clause; have h5 := h.small hc
  unfold readyF
  rw [if_neg (by rw [h.status]; omega), if_neg (by omega), if_neg (by omega)]
theorem stepping_step {c : List Ins} {D : List Int} {v : Env} (hc : Safe c D) (hv : (verF c).2 = 0) {i : Nat} {s : St} (h : Stepping c D v i s) (hs : s.status = 0) :
    stepF c v s = (advF c v s 0, 0) ∧ Stepping c D v (i + 1) (advF c v s 0) ∧ (advF c v s 0).fuel = s.fuel - 1 ∧ ((advF c v s 0).status = 0 → s.pc < (advF c v s 0).pc) ∧ ((advF c v s 0).status ≠ 0 → (advF c v s 0).pc = s.pc) := by
  obtain ⟨hg, h1, h2⟩ := h.run hs
  have h3 := hg.lt
  have h4 := hc.short
  obtain ⟨p1, p2, p3, p4⟩ := adv_good (v := v) hc hg (by omega)
  refine ⟨by unfold stepF; rw [good_ready hc hv hg (by omega)]; simp, ⟨?_, fun hz => ?_⟩, p2, fun hz => (p1 hz).2, fun hz => (p3 hz).1⟩
  · rw [itF_succ, ← h.eq, if_pos hs]
  · obtain ⟨q1, q2⟩ := p1 hz
    exact ⟨q1, by omega, by omega⟩
theorem stepping_end {c : List Ins} {D : List Int} {v : Env} (hc : Safe c D) (hv : (verF c).2 = 0) {i : Nat} {s : St} (h : Stepping c D v i s) (hi : i ≤ c.length) (he : ¬ (i < c.length ∧ s.status = 0)) :
    s = (runF c v c.length).1 ∧ (stepF c v s).2 = 211 := by
  have hs : s.status ≠ 0 := by
    intro hs
    obtain ⟨hg, h1, h2⟩ := h.run hs
    have := hg.lt
    exact he ⟨by omega, hs⟩
  have h4 := hc.short
  refine ⟨?_, ?_⟩
  · have hst : startF (c.length : Int) = ((St.start ((c.length : Int))), 0) := by unfold startF; rw [if_neg (by omega)]
    unfold runF
    rw [hst]
    simp only [hv, ne_eq, not_true_eq_false, if_false]
    have h5 : (itF c v i (St.start ((c.length : Int)))).status ≠ 0 := by rw [← h.eq]; exact hs
    have := itF_stop h5 (c.length + 1 - i)
    rw [show i + (c.length + 1 - i) = c.length + 1 by omega] at this
    rw [h.eq, Int.toNat_natCast, this]
  · have hr : readyF c s 0 = 211 := by unfold readyF; rw [if_pos hs]
    unfold stepF; rw [hr]; simp

theorem run_ends {c : List Ins} {D : List Int} {v : Env} (hc : Safe c D) (hv : (verF c).2 = 0) : 
    (runF c v c.length).2 = 0 ∧ (runF c v c.length).1.status ≠ 0 ∧ (runF c v c.length).1.status ≠ 220 ∧ 0 ≤ (runF c v c.length).1.fuel ∧ (runF c v c.length).1.fuel ≤ c.length ∧
    ∀ k : Int, 0 ≤ k → k ≤ 32768 → (runF c v k).2 = 0 ∧
      (k < c.length - (runF c v c.length).1.fuel → (runF c v k).1.status = 220 ∧ (runF c v k).1.fuel = 0) ∧
      (c.length - (runF c v c.length).1.fuel ≤ k → (runF c v k).1 = { (runF c v c.length).1 with fuel := (runF c v c.length).1.fuel + (k - c.length) }) := by
  have h4 := hc.short
  have key : ∀ k : Int, 0 ≤ k → k ≤ 32768 → runF c v k = (itF c v (k.toNat + 1) (St.start (k)), 0) := by
    intro k h1 h2
    have hst : startF k = (St.start k, 0) := by unfold startF; rw [if_neg (by omega)]
    unfold runF
    rw [hst]
    simp only [hv, ne_eq, not_true_eq_false, if_false]
  obtain ⟨q1, q2, q3, q4, q5⟩ := it_ends (v := v) hc (c.length + 1) (St.start ((c.length : Int))) (good_start hc (by omega)) (by show (c.length : Int) - 0 ≤ c.length; omega) (by show (c.length : Int) < _; omega)
  have e := key c.length (by omega) (by omega)
  rw [Int.toNat_natCast] at e
  rw [e]
  have q4 : (itF c v (c.length + 1) (St.start ((c.length : Int)))).fuel ≤ (c.length : Int) - 1 := q4
  refine ⟨rfl, q1, q2, q3, by show (itF c v (c.length + 1) (St.start (c.length : Int))).fuel ≤ c.length; omega, fun k h1 h2 => ?_⟩
  rw [key k h1 h2]
  have q6 := q5 (k - c.length) (k.toNat + 1) (by show 0 ≤ (c.length : Int) + (k - c.length); omega) (by show (c.length : Int) + (k - c.length) < _; omega)
  have e2 : ({ St.start (c.length : Int) with fuel := (St.start (c.length : Int)).fuel + (k - c.length) } : St) = (St.start (k)) := by
    show (St.start ((c.length : Int) + (k - c.length))) = _
    rw [show (c.length : Int) + (k - c.length) = k by omega]
  rw [e2] at q6
  refine ⟨rfl, fun hh => q6.1 ?_, fun hh => q6.2 ?_⟩
  · show (c.length : Int) + (k - c.length) < c.length - _
    have hh : k < (c.length : Int) - (itF c v (c.length + 1) (St.start ((c.length : Int)))).fuel := hh
    omega
  · show (c.length : Int) - _ ≤ c.length + (k - c.length)
    have hh : (c.length : Int) - (itF c v (c.length + 1) (St.start ((c.length : Int)))).fuel ≤ k := hh
    omega
end Go.Proofs.YtcaomfbcchemnaaDoor
