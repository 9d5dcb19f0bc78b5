/- A symbolic executor, part S: maps are sound. -/
import Derived.Test.YtcaomfbcchemnaaDoorEngR
namespace Go.Proofs.YtcaomfbcchemnaaDoor
open Go.RowKit
set_option linter.unusedVariables false

section
variable {Y : Thy} {E : Eng Y} {o : Oper} {T : Fr Y} {h : Hp Y} {i : Nat} {k : Res Y → Prop}

def kindD (ki : Bool) (d : TypeDesc) : Prop := match ki with | true => ∃ q, d = .int q | false => d = .string
theorem keyKind_desc (hE : EngOk E) {kt : TypeId} {ki : Bool} (hk : keyKind E kt = some ki) : ∃ d, E.P.underlying kt = some d ∧ kindD ki d := by
  unfold keyKind at hk
  split at hk
  · rename_i q _ _ _ ht; cases hk; exact ⟨_, (hE.ty _ _ ht).1, q, rfl⟩
  · rename_i _ _ _ ht; cases hk; exact ⟨_, (hE.ty _ _ ht).1, rfl⟩
  · cases hk
theorem run_checkKey_kind {P : Program} {ki : Bool} {d : TypeDesc} (hd : kindD ki d) (b : Bool) (n kt : Nat) (kv : Value) (w : World) (hkt : P.underlying kt = some d) : (Instr.checkKey b (n + 1) kt kv).run P w = .ok () w := by
  unfold Instr.checkKey
  rw [Sem.run_bind, run_underlying hkt w]
  cases ki with
  | true => obtain ⟨q, rfl⟩ := hd; rfl
  | false => obtain rfl := hd; rfl
theorem run_findKey_now {P : Program} {d : TypeDesc} {kt : Nat} {kv : Value} {es : List MapEntry} {res : Option (Nat × Value)} (w : World) (hkt : P.underlying kt = some d) (hf : Instr.findNow d kv es 0 = some res) :
    (Instr.findKey kt kv es).run P w = .ok res w := by
  unfold Instr.findKey
  rw [Sem.run_bind, run_underlying hkt w]
  simp only [Result.andThen_ok, hf]
  rfl
theorem run_getObj_of {P : Program} (w : World) (r : Nat) (es : Array MapEntry) (c : Nat) (hg : w.heap[r]? = some (.map es c)) : (getObj r).run P w = .ok (.map es c) w := by
  simp [getObj, Sem.run, hg]

/-- entries of memory and those that are followed: the same keys -/
def EntsK (es : List (Value × SV Y)) (ents : List MapEntry) : Prop := ents.length = es.length ∧ ∀ (j : Nat) kv sv, es[j]? = some (kv, sv) → ∃ e, ents[j]? = some e ∧ e.key = kv
theorem EntsK.tail {kv : Value} {sv : SV Y} {es : List (Value × SV Y)} {ents : List MapEntry} (h : EntsK ((kv, sv) :: es) ents) : ∃ e ents', ents = e :: ents' ∧ e.key = kv ∧ EntsK es ents' := by
  obtain ⟨h1, h2⟩ := h
  cases ents with
  | nil => simp at h1
  | cons e ents' =>
    obtain ⟨e', h3, h4⟩ := h2 0 kv sv rfl
    obtain rfl : e = e' := by simpa using h3
    exact ⟨e, ents', rfl, h4, by simpa using h1, fun j kv sv hj => h2 (j + 1) kv sv hj⟩

theorem smLook_ok {ki : Bool} {key : SV Y} {d : TypeDesc} (hd : kindD ki d) : ∀ {es : List (Value × SV Y)} {f : SV Y → Prop} {z : Prop}, smLook ki key es f z →
    (∃ (j : Nat) (kv : Value) (sv : SV Y), es[j]? = some (kv, sv) ∧ f sv ∧ ∀ σ g u (ents : List MapEntry) i0, Den E σ g key u → EntsK es ents → ∃ e, ents[j]? = some e ∧ Instr.findNow d u ents i0 = some (some (i0 + j, e.val))) ∨
    (z ∧ ∀ σ g u (ents : List MapEntry) i0, Den E σ g key u → EntsK es ents → Instr.findNow d u ents i0 = some none) := by
  intro es
  induction es with
  | nil =>
    intro f z h
    refine .inr ⟨h, fun σ g u ents i0 _ he => ?_⟩
    have : ents = [] := List.eq_nil_of_length_eq_zero (by simpa using he.1)
    subst this; rfl
  | cons p es ih =>
    obtain ⟨kv, sv⟩ := p
    intro f z h
    -- the rest
    have rest : (∀ σ g u e, Den E σ g key u → e = kv → Instr.sameNow d u e = some false) → smLook ki key es f z →
      (∃ (j : Nat) (kv' : Value) (sv' : SV Y), ((kv, sv) :: es)[j]? = some (kv', sv') ∧ f sv' ∧ ∀ σ g u (ents : List MapEntry) i0, Den E σ g key u → EntsK ((kv, sv) :: es) ents → ∃ e, ents[j]? = some e ∧ Instr.findNow d u ents i0 = some (some (i0 + j, e.val))) ∨
      (z ∧ ∀ σ g u (ents : List MapEntry) i0, Den E σ g key u → EntsK ((kv, sv) :: es) ents → Instr.findNow d u ents i0 = some none) := by
      intro hne h
      rcases ih h with ⟨j, kv', sv', h1, h2, h3⟩ | ⟨h1, h2⟩
      · refine .inl ⟨j + 1, kv', sv', h1, h2, fun σ g u ents i0 hu he => ?_⟩
        obtain ⟨e, ents', rfl, h4, h5⟩ := he.tail
        obtain ⟨e', h6, h7⟩ := h3 σ g u ents' (i0 + 1) hu h5
        refine ⟨e', h6, ?_⟩
        unfold Instr.findNow
        rw [hne σ g u _ hu h4]
        rw [show i0 + (j + 1) = i0 + 1 + j by omega]; exact h7
      · refine .inr ⟨h1, fun σ g u ents i0 hu he => ?_⟩
        obtain ⟨e, ents', rfl, h4, h5⟩ := he.tail
        unfold Instr.findNow
        rw [hne σ g u _ hu h4]
        exact h2 σ g u ents' (i0 + 1) hu h5
    have here : (∀ σ g u e, Den E σ g key u → e = kv → Instr.sameNow d u e = some true) → f sv →
      (∃ (j : Nat) (kv' : Value) (sv' : SV Y), ((kv, sv) :: es)[j]? = some (kv', sv') ∧ f sv' ∧ ∀ σ g u (ents : List MapEntry) i0, Den E σ g key u → EntsK ((kv, sv) :: es) ents → ∃ e, ents[j]? = some e ∧ Instr.findNow d u ents i0 = some (some (i0 + j, e.val))) := by
      intro heq h
      refine ⟨0, kv, sv, rfl, h, fun σ g u ents i0 hu he => ?_⟩
      obtain ⟨e, ents', rfl, h4, h5⟩ := he.tail
      refine ⟨e, rfl, ?_⟩
      unfold Instr.findNow
      rw [heq σ g u _ hu h4]; rfl
    unfold smLook at h
    split at h
    · rename_i kd b l kd' a
      split at h
      · rename_i hkd
        obtain rfl := of_decide_eq_true hkd
        obtain ⟨q, rfl⟩ := hd
        have h := split_of h
        have hs : ∀ σ g u e, Den E σ g (.int l kd' a) u → e = Value.int kd' b → Instr.sameNow (.int q) u e = some (a == b) := by
          rintro σ g u e hu rfl
          cases hu; simp [Instr.sameNow]
        cases hab : (a == b) with
        | true => rw [hab] at h hs; exact .inl (here hs h)
        | false => rw [hab] at h hs; exact rest hs h
      · exact h.elim
    · rename_i b l a
      obtain rfl := hd
      have h := split_of h
      have hs : ∀ σ g u e, Den E σ g (.str l a) u → e = Value.string b → Instr.sameNow .string u e = some (a == b) := by
        rintro σ g u e hu rfl
        cases hu; simp only [Instr.sameNow]
      cases hab : (a == b) with
      | true => rw [hab] at h hs; exact .inl (here hs h)
      | false => rw [hab] at h hs; exact rest hs h
    · exact h.elim

/-- the key is this one, or is not -/
def KeyEq (ki : Bool) (key : SV Y) (kv : Value) (b : Bool) : Prop :=
  match ki, kv, key with
  | true, .int kd n, .int _ kd' a => kd' = kd ∧ (a == n) = b
  | false, .string n, .str _ a => (a == n) = b
  | _, _, _ => False
theorem smLook_key {ki : Bool} {key : SV Y} : ∀ {es : List (Value × SV Y)} {f : SV Y → Prop} {z : Prop}, smLook ki key es f z →
    (∃ (j : Nat) (kv : Value) (sv : SV Y), es[j]? = some (kv, sv) ∧ f sv ∧ KeyEq ki key kv true) ∨ (z ∧ ∀ (j : Nat) kv sv, es[j]? = some (kv, sv) → KeyEq ki key kv false)
  | [], f, z, h => .inr ⟨h, fun j kv sv hj => by simp at hj⟩
  | (kv, sv) :: es, f, z, h => by
    have more : KeyEq ki key kv false → smLook ki key es f z → (∃ (j : Nat) (kv' : Value) (sv' : SV Y), ((kv, sv) :: es)[j]? = some (kv', sv') ∧ f sv' ∧ KeyEq ki key kv' true) ∨ (z ∧ ∀ (j : Nat) kv' sv', ((kv, sv) :: es)[j]? = some (kv', sv') → KeyEq ki key kv' false) := by
      intro h0 h
      rcases smLook_key h with ⟨j, kv', sv', h1, h2, h3⟩ | ⟨h1, h2⟩
      · exact .inl ⟨j + 1, kv', sv', h1, h2, h3⟩
      · refine .inr ⟨h1, fun j kv' sv' hj => ?_⟩
        cases j with
        | zero => simp at hj; obtain ⟨rfl, rfl⟩ := hj; exact h0
        | succ j => exact h2 j kv' sv' (by simpa using hj)
    unfold smLook at h
    split at h
    · rename_i kd n l kd' a
      split at h
      · rename_i hkd
        have hkd := of_decide_eq_true hkd
        have h := split_of h
        cases hab : (a == n) with
        | true => rw [hab] at h; exact .inl ⟨0, _, _, rfl, h, hkd, hab⟩
        | false => rw [hab] at h; exact more ⟨hkd, hab⟩ h
      · exact h.elim
    · rename_i n l a
      have h := split_of h
      cases hab : (a == n) with
      | true => rw [hab] at h; exact .inl ⟨0, _, _, rfl, h, hab⟩
      | false => rw [hab] at h; exact more hab h
    · exact h.elim
theorem keyEq_same {ki : Bool} {d : TypeDesc} (hd : kindD ki d) {key : SV Y} {kv : Value} {b : Bool} (h : KeyEq ki key kv b) {σ : Pl} {g : GH} {u : Value} (hu : Den E σ g key u) : Instr.sameNow d u kv = some b := by
  unfold KeyEq at h
  split at h
  · obtain ⟨rfl, h⟩ := h
    obtain ⟨q, rfl⟩ := hd
    cases hu
    rw [← h]; simp [Instr.sameNow]
  · obtain rfl := hd
    cases hu
    rw [← h]; simp only [Instr.sameNow]
  · exact h.elim
theorem keyEq_kind {ki : Bool} {key : SV Y} {kv kv' : Value} {b : Bool} (h : KeyEq ki key kv b) {q : Option IntKind} (h1 : KeyIs q kv) (h2 : KeyIs q kv') : ∃ b', KeyEq ki key kv' b' := by
  unfold KeyEq at h
  split at h
  · rename_i kd n l kd' a
    cases q with
    | none => obtain ⟨s, hs⟩ := h1; cases hs
    | some kd2 =>
      obtain ⟨m, hm⟩ := h1
      cases hm
      obtain ⟨m', rfl⟩ := h2
      exact ⟨_, h.1, rfl⟩
  · cases q with
    | some kd2 => obtain ⟨s, hs⟩ := h1; cases hs
    | none =>
      obtain ⟨m', rfl⟩ := h2
      exact ⟨_, rfl⟩
  · exact h.elim
theorem keyEq_int {ki : Bool} {key : SV Y} {q : IntKind} {n : Int} (h : KeyEq ki key (.int q n) true) : ki = true ∧ ∃ l, key = .int l q n := by
  unfold KeyEq at h
  split at h
  · rename_i heq
    cases heq
    obtain ⟨rfl, h⟩ := h
    exact ⟨rfl, _, by rw [eq_of_beq h]⟩
  · rename_i heq
    cases heq
  · exact h.elim
theorem keyEq_uniq {ki : Bool} {key : SV Y} {kv kv' : Value} {q : IntKind} (h : KeyEq ki key kv true) (h' : KeyEq ki key kv' true) (hq : KeyIs (some q) kv) (hq' : KeyIs (some q) kv') : kv = kv' := by
  obtain ⟨n, rfl⟩ := hq
  obtain ⟨n', rfl⟩ := hq'
  obtain ⟨_, l, e1⟩ := keyEq_int h
  obtain ⟨_, l', e2⟩ := keyEq_int h'
  rw [e1] at e2
  cases e2; rfl
theorem find_miss {d : TypeDesc} {u : Value} : ∀ {l : List MapEntry} {i0 : Nat}, (∀ e ∈ l, Instr.sameNow d u e.key = some false) → Instr.findNow d u l i0 = some none
  | [], _, _ => rfl
  | e :: l, i0, h => by
    unfold Instr.findNow
    rw [h e (by simp)]
    exact find_miss fun e he => h e (List.mem_cons_of_mem _ he)
theorem find_hit {d : TypeDesc} {u : Value} : ∀ {l : List MapEntry} {i0 : Nat}, (∀ e ∈ l, ∃ b, Instr.sameNow d u e.key = some b) → (∃ e ∈ l, Instr.sameNow d u e.key = some true) → ∃ p e, e ∈ l ∧ Instr.sameNow d u e.key = some true ∧ Instr.findNow d u l i0 = some (some (p, e.val))
  | [], _, _, ⟨e, he, _⟩ => by cases he
  | e :: l, i0, h, ⟨e', he', hs⟩ => by
    obtain ⟨b, hb⟩ := h e (by simp)
    unfold Instr.findNow
    rw [hb]
    cases b with
    | true => exact ⟨i0, e, by simp, hb, rfl⟩
    | false =>
      have : e' ∈ l := by
        rcases List.mem_cons.1 he' with rfl | h2
        · rw [hb] at hs; cases hs
        · exact h2
      obtain ⟨p, e2, h1, h2, h3⟩ := find_hit (i0 := i0 + 1) (fun e he => h e (List.mem_cons_of_mem _ he)) ⟨e', this, hs⟩
      exact ⟨p, e2, List.mem_cons_of_mem _ h1, h2, h3⟩

theorem slookup_ok (hE : EngOk E) {t : TypeId} {m x : Operand} {ok : Bool} (ho : o.op = .lookup t m x ok) (hk : slookup E t (ev T m) (ev T x) ok h k) : ∃ r, k r ∧ OpTri E o T h i r := by
  have mm : m ∈ o.op.operands.toList := by simp [ho, Op.operands]
  have mx : x ∈ o.op.operands.toList := by simp [ho, Op.operands]
  unfold slookup at hk
  split at hk
  · rename_i kt et _ _ _ ht
    split at hk
    · rename_i ki ti es rd hki het hmo
      obtain ⟨d, hkt, hd⟩ := keyKind_desc hE hki
      have run : ∀ (w : World) (ρ : Operand → Value) (r : Nat) (ents : Array MapEntry) (c : Nat) (res : Option (Nat × Value)), ρ m = .map (some r) → w.heap[r]? = some (.map ents c) → Instr.findNow d (ρ x) ents.toList 0 = some res →
          (execOp ρ o).run E.P w = .ok (.value (let p := match res with | some (_, v) => (v, true) | none => (ti.zero, false); if ok then .tuple #[p.1, .bool p.2] else p.1)) w := by
        intro w ρ r ents c res hm hg hf
        unfold execOp Instr.lookup
        simp only [ho, hm, Sem.run_bind, run_underlying (hE.ty _ _ ht).1, Result.andThen_ok, run_getObj_of w r ents c hg, Sem.run_pure, run_checkKey_kind hd _ 9999 kt _ w hkt, run_findKey_now w hkt hf]
        cases res with
        | none => simp only [Sem.run_bind, run_zero_ty hE het, Result.andThen_ok, Sem.run_pure]
        | some p => simp only [Sem.run_bind, Sem.run_pure, Result.andThen_ok]
      have yes : ∀ {σ : Pl} {g : GH} {sv : SV Y} {v : Value}, Den E σ g sv v → Den E σ g (match ok with | true => .tup [sv, .bool true true] | false => sv) (if ok then .tuple #[v, .bool true] else v) := by
        intro σ g sv v hden
        cases ok with
        | true => exact .tup (fun q => if q = 0 then v else .bool true) rfl (fun q hq => by match q, hq with | 0, _ => rfl | 1, _ => rfl) (fun q s hs => by
            match q, hs with
            | 0, hs => obtain rfl : sv = s := by simpa using hs
                       exact hden
            | 1, hs => obtain rfl : SV.bool true true = s := by simpa using hs
                       exact .bool _ _)
        | false => exact hden
      have no : ∀ {σ : Pl} {g : GH}, Den E σ g (match ok with | true => .tup [ofVal ti.zero, .bool true false] | false => ofVal ti.zero) (if ok then .tuple #[ti.zero, .bool false] else ti.zero) := by
        intro σ g
        cases ok with
        | true => exact .tup (fun q => if q = 0 then ti.zero else .bool false) rfl (fun q hq => by match q, hq with | 0, _ => rfl | 1, _ => rfl) (fun q s hs => by
            match q, hs with
            | 0, hs => obtain rfl : ofVal ti.zero = s := by simpa using hs
                       exact den_ofVal E _ _ _
            | 1, hs => obtain rfl : SV.bool true false = s := by simpa using hs
                       exact .bool _ _)
        | false => exact den_ofVal E _ _ _
      by_cases hpm : ∃ es', ev T m = .pmap es'
      · obtain ⟨es', hev⟩ := hpm
        obtain ⟨rfl, rfl⟩ : es' = es ∧ [] = rd := by
          unfold mapOf at hmo
          rw [hev] at hmo
          simpa using hmo
        rcases smLook_key hk with ⟨j, kv, sv, hj, hk, hkey⟩ | ⟨hk, hkey⟩
        · refine ⟨_, hk, tri_quiet fun B σ g w ρ hh hrd hI hx => ?_⟩
          have hu := hx m mm
          rw [hev] at hu
          generalize hρ : ρ m = um at hu
          cases hu
          rename_i r ents c q hg hq hn h1 h2 hd'
          obtain ⟨clk, hw⟩ := hI.gm _ _ hg
          have hkx := hx x mx
          obtain ⟨e0, he0, hek⟩ := h2 j kv sv hj
          obtain ⟨p, e, hem, hsame, hf⟩ := find_hit (d := d) (u := ρ x) (i0 := 0) (l := ents.toList) (fun e he => by
            obtain ⟨j', sv', hj', _⟩ := h1 e he
            obtain ⟨b', hb'⟩ := keyEq_kind hkey (hq j kv sv hj) (hq j' _ sv' hj')
            exact ⟨b', keyEq_same hd hb' hkx⟩) ⟨e0, he0, by rw [hek]; exact keyEq_same hd hkey hkx⟩
          obtain ⟨j', sv', hj', hval⟩ := h1 e hem
          obtain ⟨b', hb'⟩ := keyEq_kind hkey (hq j kv sv hj) (hq j' _ sv' hj')
          have : b' = true := by
            have := keyEq_same hd hb' hkx
            rw [hsame] at this
            exact (Option.some.inj this).symm
          subst this
          have hkk := keyEq_uniq hkey hb' (hq j kv sv hj) (hq j' _ sv' hj')
          rw [← hkk] at hj'
          obtain rfl := hn j j' kv sv sv' hj hj'
          refine ⟨_, run w ρ r ents clk _ hρ hw hf, ?_⟩
          have := yes (hd' j kv sv hj)
          rw [hval]
          exact this
        · refine ⟨_, hk, tri_quiet fun B σ g w ρ hh hrd hI hx => ?_⟩
          have hu := hx m mm
          rw [hev] at hu
          generalize hρ : ρ m = um at hu
          cases hu
          rename_i r ents c q hg hq hn h1 h2 hd'
          obtain ⟨clk, hw⟩ := hI.gm _ _ hg
          have hkx := hx x mx
          have hf := find_miss (d := d) (u := ρ x) (i0 := 0) (l := ents.toList) (fun e he => by
            obtain ⟨j', sv', hj', _⟩ := h1 e he
            exact keyEq_same hd (hkey j' _ sv' hj') hkx)
          exact ⟨_, run w ρ r ents clk _ hρ hw hf, no⟩
      -- the entries in memory
      have hent : ∀ B σ g w u (hh : Hp Y), (∀ b ∈ rd, hh b = h b) → Inv E B σ hh g w → Den E σ g (ev T m) u → ∃ r ents c, u = .map (some r) ∧ w.heap[r]? = some (.map ents c) ∧ EntsK es ents.toList ∧ ∀ (j : Nat) kv sv, es[j]? = some (kv, sv) → ∃ v, (∃ bo, ents[j]? = some (MapEntry.mk kv v bo)) ∧ Den E σ g sv v := by
        intro B σ g w u hh hrd hI hu
        unfold mapOf at hmo
        split at hmo
        · rename_i b hev
          rw [hev] at hu
          split at hmo
          · rename_i es' hb
            cases hmo
            cases hu
            rename_i r z hσ
            obtain ⟨r', z', hσ', hbo⟩ := hI.blk b _ ((hrd b (by simp)).trans hb)
            rw [hσ] at hσ'; cases hσ'
            obtain ⟨ents, c, h1, h2, h3⟩ := hbo
            refine ⟨r, ents, c, rfl, h1, ⟨by simpa using h2, fun j kv sv hj => ?_⟩, fun j kv sv hj => ?_⟩
            · obtain ⟨v, bo, h4, _⟩ := h3 j kv sv hj
              exact ⟨_, by simpa using h4, rfl⟩
            · obtain ⟨v, bo, h4, h5⟩ := h3 j kv sv hj
              exact ⟨v, ⟨bo, h4⟩, h5⟩
          · cases hmo
        · rename_i es' hev
          exact absurd ⟨es', hev⟩ hpm
        · cases hmo
      rcases smLook_ok (E := E) hd hk with ⟨j, kv, sv, hj, hk, hrun⟩ | ⟨hk, hrun⟩
      · refine ⟨_, hk, tri_quiet fun B σ g w ρ hh hrd hI hx => ?_⟩
        obtain ⟨r, ents, c, hm, hg, hek, hdv⟩ := hent B σ g w (ρ m) hh hrd hI (hx m mm)
        obtain ⟨e, he, hf⟩ := hrun σ g (ρ x) ents.toList 0 (hx x mx) hek
        obtain ⟨v, ⟨bo, hv⟩, hden⟩ := hdv j kv sv hj
        have : e.val = v := by
          rw [show ents.toList[j]? = ents[j]? by simp, hv] at he
          cases he; rfl
        refine ⟨_, run w ρ r ents c _ hm hg hf, ?_⟩
        rw [this]
        cases ok with
        | true => exact .tup (fun q => if q = 0 then v else .bool true) rfl (fun q hq => by match q, hq with | 0, _ => rfl | 1, _ => rfl) (fun q s hs => by
            match q, hs with
            | 0, hs => obtain rfl : sv = s := by simpa using hs
                       exact hden
            | 1, hs => obtain rfl : SV.bool true true = s := by simpa using hs
                       exact .bool _ _)
        | false => exact hden
      · refine ⟨_, hk, tri_quiet fun B σ g w ρ hh hrd hI hx => ?_⟩
        obtain ⟨r, ents, c, hm, hg, hek, hdv⟩ := hent B σ g w (ρ m) hh hrd hI (hx m mm)
        have hf := hrun σ g (ρ x) ents.toList 0 (hx x mx) hek
        refine ⟨_, run w ρ r ents c _ hm hg hf, ?_⟩
        cases ok with
        | true => exact .tup (fun q => if q = 0 then ti.zero else .bool false) rfl (fun q hq => by match q, hq with | 0, _ => rfl | 1, _ => rfl) (fun q s hs => by
            match q, hs with
            | 0, hs => obtain rfl : ofVal ti.zero = s := by simpa using hs
                       exact den_ofVal E _ _ _
            | 1, hs => obtain rfl : SV.bool true false = s := by simpa using hs
                       exact .bool _ _)
        | false => exact den_ofVal E _ _ _
    · exact hk.elim
  · exact hk.elim

theorem smPut_ok {ki : Bool} {key : Value} {d : TypeDesc} (hd : kindD ki d) {v : SV Y} : ∀ {es es' : List (Value × SV Y)}, smPut ki key v es = some es' → ∀ (ents : List MapEntry) i0, EntsK es ents →
    (Instr.findNow d key ents i0 = some none ∧ es' = es ++ [(key, v)]) ∨
    (∃ (j : Nat) (e : MapEntry) (sv : SV Y), ents[j]? = some e ∧ Instr.findNow d key ents i0 = some (some (i0 + j, e.val)) ∧ es[j]? = some (e.key, sv) ∧ es' = es.set j (e.key, v) ∧ Instr.sameNow d key e.key = some true) := by
  intro es
  induction es with
  | nil =>
    intro es' h ents i0 he
    have : ents = [] := List.eq_nil_of_length_eq_zero (by simpa using he.1)
    subst this
    cases h
    exact .inl ⟨rfl, rfl⟩
  | cons p es ih =>
    obtain ⟨kv, u⟩ := p
    intro es' h ents i0 he
    obtain ⟨e, ents', rfl, rfl, h5⟩ := he.tail
    have step : ∀ q, Instr.sameNow d key e.key = some q → (match q with | true => some ((e.key, v) :: es) | false => (match smPut ki key v es with | some l => some ((e.key, u) :: l) | none => none)) = some es' →
        (Instr.findNow d key (e :: ents') i0 = some none ∧ es' = ((e.key, u) :: es) ++ [(key, v)]) ∨
        (∃ (j : Nat) (e' : MapEntry) (sv : SV Y), (e :: ents')[j]? = some e' ∧ Instr.findNow d key (e :: ents') i0 = some (some (i0 + j, e'.val)) ∧ ((e.key, u) :: es)[j]? = some (e'.key, sv) ∧ es' = ((e.key, u) :: es).set j (e'.key, v) ∧ Instr.sameNow d key e'.key = some true) := by
      intro q hq h
      cases q with
      | true =>
        simp only [Option.some.injEq] at h
        refine .inr ⟨0, e, u, rfl, ?_, rfl, by rw [← h]; rfl, hq⟩
        unfold Instr.findNow; rw [hq]; rfl
      | false =>
        simp only at h
        split at h
        · rename_i l hl
          cases h
          have hfn : Instr.findNow d key (e :: ents') i0 = Instr.findNow d key ents' (i0 + 1) := by
            conv => lhs; unfold Instr.findNow
            rw [hq]
          rcases ih hl ents' (i0 + 1) h5 with ⟨h1, h2⟩ | ⟨j, e', sv, h1, h2, h3, h4, h6⟩
          · exact .inl ⟨by rw [hfn]; exact h1, by rw [h2]; rfl⟩
          · refine .inr ⟨j + 1, e', sv, h1, by rw [hfn, h2]; congr 2; simp; omega, h3, by rw [h4]; rfl, h6⟩
        · cases h
    unfold smPut at h
    split at h
    · rename_i kd b kd' a hek
      split at h
      · rename_i hkd
        obtain rfl := of_decide_eq_true hkd
        obtain ⟨q, rfl⟩ := hd
        exact step (a == b) (by rw [hek]; simp [Instr.sameNow]) h
      · cases h
    · rename_i b a hek
      obtain rfl := hd
      exact step (a == b) (by rw [hek]; simp [Instr.sameNow]) h
    · cases h
end
end Go.Proofs.YtcaomfbcchemnaaDoor
