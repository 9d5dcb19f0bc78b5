/- A symbolic executor, part R: slice expressions are sound. -/
import Derived.Test.YtcaomfbcchemnaaDoorEngQ
namespace Go.Proofs.YtcaomfbcchemnaaDoor
open Go.RowKit
set_option linter.unusedVariables false

section
variable {Y : Thy} {E : Eng Y} {o : Oper} {T : Fr Y} {h : Hp Y} {i : Nat} {k : Res Y → Prop}

/-- what a slice expression's bounds come to -/
def mxP (m cap : Nat) : Option (IntKind × Int) → Prop | none => m = cap | some q => 0 ≤ q.2 ∧ q.2 ≤ cap ∧ m = q.2.toNat
def hiP (h m len cap : Nat) : Option (IntKind × Int) → Option (IntKind × Int) → Prop | none, none => h = len | some q, none => 0 ≤ q.2 ∧ q.2 ≤ cap ∧ h = q.2.toNat | some q, some _ => 0 ≤ q.2 ∧ q.2 ≤ m ∧ h = q.2.toNat | none, some _ => False
def loP (l h : Nat) : Option (IntKind × Int) → Prop | none => l = 0 | some q => 0 ≤ q.2 ∧ q.2 ≤ h ∧ l = q.2.toNat
def zeroP : Option (IntKind × Int) → Prop | none => True | some q => q.2 = 0
def bnd (r : Option (Bool × IntKind × Int)) : Option (IntKind × Int) := r.map fun q => (q.2.1, q.2.2)

theorem run_bounds {P : Program} {b : Bool} {len cap : Nat} {lo hi mx : Option (IntKind × Int)} {l h m : Nat} (w : World)
    (hm : mxP m cap mx) (hh : hiP h m len cap hi mx) (hl : loP l h lo) :
    (Instr.sliceBounds b len cap (lo.map fun x => .int x.1 x.2) (hi.map fun x => .int x.1 x.2) (mx.map fun x => .int x.1 x.2)).run P w = .ok (l, h, m) w := by
  have bound : ∀ (kd : IntKind) (x : Int) (y : Nat) (c : BoundsCode), 0 ≤ x → x ≤ y → (Instr.sliceBound (.int kd x) y c).run P w = .ok x.toNat w := by
    intro kd x y c h1 h2
    simp only [Instr.sliceBound, asIntOf, Sem.run_bind, Sem.run_pure, Result.andThen_ok]
    rw [if_pos ⟨h1, h2⟩]; rfl
  unfold Instr.sliceBounds
  cases mx with
  | none =>
    have hm : m = cap := hm; subst hm
    cases hi with
    | none =>
      have hh : h = len := hh; subst hh
      cases lo with
      | none => have hl : l = 0 := hl; subst hl; simp only [Option.map_none, Sem.run_bind, Sem.run_pure, Result.andThen_ok]
      | some x => obtain ⟨h1, h2, rfl⟩ := hl; simp only [Option.map_none, Option.map_some, Sem.run_bind, Sem.run_pure, Result.andThen_ok, bound _ _ _ _ h1 h2]
    | some y =>
      obtain ⟨h3, h4, rfl⟩ := hh
      cases lo with
      | none => have hl : l = 0 := hl; subst hl; simp only [Option.map_none, Option.map_some, Sem.run_bind, Sem.run_pure, Result.andThen_ok, bound _ _ _ _ h3 h4]
      | some x => obtain ⟨h1, h2, rfl⟩ := hl; simp only [Option.map_none, Option.map_some, Sem.run_bind, Sem.run_pure, Result.andThen_ok, bound _ _ _ _ h3 h4, bound _ _ _ _ h1 h2]
  | some z =>
    obtain ⟨h5, h6, rfl⟩ := hm
    cases hi with
    | none => exact hh.elim
    | some y =>
      obtain ⟨h3, h4, rfl⟩ := hh
      cases lo with
      | none => have hl : l = 0 := hl; subst hl; simp only [Option.map_none, Option.map_some, Sem.run_bind, Sem.run_pure, Result.andThen_ok, bound _ _ _ _ h5 h6, bound _ _ _ _ h3 h4]
      | some x => obtain ⟨h1, h2, rfl⟩ := hl; simp only [Option.map_some, Sem.run_bind, Sem.run_pure, Result.andThen_ok, bound _ _ _ _ h5 h6, bound _ _ _ _ h3 h4, bound _ _ _ _ h1 h2]

/-- a piece of a list that nobody writes -/
theorem psl_piece (hE : EngOk E) {σ : Pl} {g : GH} {th : Y.Th} {l : List (Y.dom th)} {full full' : Bool} {base : Option Addr} {c : Nat} (hd : Den E σ g (.psl th l full) (.slice base l.length c)) {a b m : Nat} (hab : a ≤ b) (hb : b ≤ l.length) (hm : m ≤ c) (hbm : b ≤ m) (hf : full' = true → m = b) :
    Den E σ g (.psl th ((l.take b).drop a) full') (.slice (if m = a then base else base.map (·.add (a * E.w th))) (b - a) (m - a)) := by
  obtain ⟨base', c', cv, e, h1, h2, h3, h4, h5, h6⟩ := den_psl hd
  cases e
  have hlen : ((l.take b).drop a).length = b - a := by simp; omega
  have hget : ∀ q x, ((l.take b).drop a)[q]? = some x → l[a + q]? = some x := by
    intro q x hq
    rw [List.getElem?_drop, List.getElem?_take] at hq
    split at hq
    · exact hq
    · cases hq
  rw [← hlen]
  refine .psl (fun q j => cv (a + q) j) (by omega) (by omega) (fun hq => by have := hf hq; omega) ?_ ?_ (fun q x hq j sv hs => h6 _ x (hget q x hq) j sv hs)
  · intro hn
    by_cases e : m = a
    · omega
    · rw [if_neg e] at hn
      cases base with
      | none => have := h4 rfl; omega
      | some ad => simp at hn
  · intro hp
    have e : ¬ m = a := by omega
    obtain ⟨r, o, rfl, hc⟩ := h5 (by omega)
    rw [if_neg e]
    refine ⟨r, o + a * E.w th, by simp [add_at], fun q x hq j hj => ?_⟩
    have := hc _ x (hget q x hq) j hj
    rw [Nat.add_mul] at this
    rw [show o + a * E.w th + q * E.w th + j = o + (a * E.w th + q * E.w th) + j by omega]; exact this

theorem sslice_ok (hE : EngOk E) {t : TypeId} {x : Operand} {lo hi mx : Option Operand} (ho : o.op = .slice t x lo hi mx) (hk : sslice E t (ev T x) (lo.map (ev T)) (hi.map (ev T)) (mx.map (ev T)) h k) : ∃ r, k r ∧ OpTri E o T h i r := by
  have m0 : x ∈ o.op.operands.toList := by simp [ho, Op.operands]
  have m1 : ∀ y, lo = some y → y ∈ o.op.operands.toList := by rintro y rfl; simp [ho, Op.operands]
  have m2 : ∀ y, hi = some y → y ∈ o.op.operands.toList := by rintro y rfl; simp [ho, Op.operands]
  have m3 : ∀ y, mx = some y → y ∈ o.op.operands.toList := by rintro y rfl; simp [ho, Op.operands]
  -- the bounds as they are read
  have rd : ∀ (σ : Pl) (g : GH) (ρ : Operand → Value), (∀ x ∈ o.op.operands.toList, Den E σ g (ev T x) (ρ x)) → ∀ (z : Option Operand) (r : Option (Bool × IntKind × Int)), (∀ y, z = some y → y ∈ o.op.operands.toList) → z.map (ev T) = r.map (fun q => .int q.1 q.2.1 q.2.2) →
      z.map ρ = (bnd r).map fun q => .int q.1 q.2 := by
    intro σ g ρ hx z r hz he
    cases z with
    | none => cases r with
      | none => rfl
      | some q => simp at he
    | some y => cases r with
      | none => simp at he
      | some q =>
        have := hx y (hz y rfl)
        simp only [Option.map_some, Option.some.injEq] at he
        rw [he] at this
        generalize hv : ρ y = v at this
        cases this
        simp [hv, bnd]
  have runS : ∀ (w : World) (ρ : Operand → Value) (el : TypeId) (sz by_ : Nat) (z : Value) (base : Option Addr) (len cap : Nat) (a b m : Nat), E.ty t = some ⟨.slice el, sz, by_, z⟩ → (∃ ti, E.ty el = some ti) → ρ x = .slice base len cap →
      (Instr.sliceBounds true len cap (lo.map ρ) (hi.map ρ) (mx.map ρ)).run E.P w = .ok (a, b, m) w → (execOp ρ o).run E.P w = .ok (.value (.slice (if m = a then base else base.map (·.add (a * ((E.ty el).map (·.size)).getD 0))) (b - a) (m - a))) w := by
    intro w ρ el sz by_ z base len cap a b m ht ⟨ti, hti⟩ hv hb
    unfold execOp
    simp only [ho, Instr.sliceAt, Sem.run_bind, run_und_ty hE ht, Result.andThen_ok, Instr.slice, hv, hb, run_sizeOf_ty hE hti, Sem.run_pure, hti, Option.map_some, Option.getD_some]
  have some_of : ∀ (z : Option Operand) (l : Bool) (kd : IntKind) (n : Int), z.map (ev T) = some (.int l kd n) → z.map (ev T) = (some (l, kd, n) : Option (Bool × IntKind × Int)).map (fun q => .int q.1 q.2.1 q.2.2) := fun z l kd n h => h
  have none_of : ∀ (z : Option Operand), z.map (ev T) = none → z.map (ev T) = (none : Option (Bool × IntKind × Int)).map (fun q => .int q.1 q.2.1 q.2.2) := fun z h => h
  unfold sslice at hk
  split at hk
  · rename_i el sz by_ z th l full ht hX
    split at hk
    · rename_i ti hel
      -- one case: what the bounds are
      have fin : ∀ (rl rh rm : Option (Bool × IntKind × Int)) (a b : Nat) (full' : Bool), ti.size = E.w th → lo.map (ev T) = rl.map (fun q => .int q.1 q.2.1 q.2.2) → hi.map (ev T) = rh.map (fun q => .int q.1 q.2.1 q.2.2) → mx.map (ev T) = rm.map (fun q => .int q.1 q.2.1 q.2.2) → a ≤ b → b ≤ l.length →
          (∀ c, l.length ≤ c → (full = true → c = l.length) → ∃ m, m ≤ c ∧ b ≤ m ∧ (full' = true → m = b) ∧ mxP m c (bnd rm) ∧ hiP b m l.length c (bnd rh) (bnd rm) ∧ loP a b (bnd rl)) →
          OpTri E o T h i (quiet [] (.psl th ((l.take b).drop a) full')) := by
        intro rl rh rm a b full' hw e1 e2 e3 hab hb hm
        refine tri_quiet fun B σ g w ρ hh _ hI hx => ?_
        have hd := hx x m0
        rw [hX] at hd
        obtain ⟨base, c, cv, e, hl, _, hf, _⟩ := den_psl hd
        obtain ⟨m, q1, q2, q3, q4, q5, q6⟩ := hm c hl hf
        rw [e] at hd
        have hbd := run_bounds (P := E.P) (b := true) w q4 q5 q6
        rw [← rd σ g ρ hx lo rl m1 e1, ← rd σ g ρ hx hi rh m2 e2, ← rd σ g ρ hx mx rm m3 e3] at hbd
        refine ⟨_, runS w ρ el sz by_ z base _ c a b m ht ⟨ti, hel⟩ e hbd, ?_⟩
        rw [hel]
        simp only [Option.map_some, Option.getD_some, hw]
        exact psl_piece hE hd hab hb q1 q2 q3
      split at hk
      · rename_i hw h1 h2 h3
        refine ⟨_, hk, ?_⟩
        have := fin none none none 0 l.length full (Nat.eq_of_beq_eq_true hw) (none_of _ h1) (none_of _ h2) (none_of _ h3) (by omega) (by omega) (fun c hc hf => ⟨c, by omega, hc, hf, rfl, rfl, rfl⟩)
        simpa using this
      · rename_i l' kd b hw h1 h2 h3
        obtain ⟨⟨p1, p2⟩, hk⟩ := need_of hk
        refine ⟨_, hk, ?_⟩
        have := fin none (some (l', kd, b)) none 0 b.toNat false (Nat.eq_of_beq_eq_true hw) (none_of _ h1) (some_of _ _ _ _ h2) (none_of _ h3) (by omega) (by omega) (fun c hc hf => ⟨c, by omega, by omega, by simp, rfl, (by dsimp only [bnd, Option.map, hiP]; omega), rfl⟩)
        simpa using this
      · rename_i l' kd a hw h1 h2 h3
        obtain ⟨⟨p1, p2⟩, hk⟩ := need_of hk
        refine ⟨_, hk, ?_⟩
        have := fin (some (l', kd, a)) none none a.toNat l.length full (Nat.eq_of_beq_eq_true hw) (some_of _ _ _ _ h1) (none_of _ h2) (none_of _ h3) (by omega) (by omega) (fun c hc hf => ⟨c, by omega, by omega, hf, rfl, rfl, (by dsimp only [bnd, Option.map, loP]; omega)⟩)
        simpa using this
      · rename_i l1 k1 a l2 k2 b hw h1 h2 h3
        obtain ⟨⟨p1, p2, p3⟩, hk⟩ := need_of hk
        exact ⟨_, hk, fin (some (l1, k1, a)) (some (l2, k2, b)) none a.toNat b.toNat false (Nat.eq_of_beq_eq_true hw) (some_of _ _ _ _ h1) (some_of _ _ _ _ h2) (none_of _ h3) (by omega) (by omega) (fun c hc hf => ⟨c, by omega, by omega, by simp, rfl, (by dsimp only [bnd, Option.map, hiP]; omega), (by dsimp only [bnd, Option.map, loP]; omega)⟩)⟩
      · rename_i l2 k2 b l3 k3 c0 hw h1 h2 h3
        obtain ⟨⟨p1, pe, p3⟩, hk2⟩ := need_of hk
        clear hk
        subst pe
        refine ⟨_, hk2, ?_⟩
        have := fin none (some (l2, k2, b)) (some (l3, k3, b)) 0 b.toNat true (Nat.eq_of_beq_eq_true hw) (none_of _ h1) (some_of _ _ _ _ h2) (some_of _ _ _ _ h3) (by omega) (by omega) (fun c hc hf => ⟨b.toNat, by omega, by omega, fun _ => rfl, (by dsimp only [bnd, Option.map, mxP]; omega), (by dsimp only [bnd, Option.map, hiP]; omega), rfl⟩)
        simpa using this
      · exact hk.elim
    · exact hk.elim
  · rename_i el sz by_ z ht hX
    split at hk
    · rename_i ti hel
      have fin : ∀ (rl rh rm : Option (Bool × IntKind × Int)), lo.map (ev T) = rl.map (fun q => .int q.1 q.2.1 q.2.2) → hi.map (ev T) = rh.map (fun q => .int q.1 q.2.1 q.2.2) → mx.map (ev T) = rm.map (fun q => .int q.1 q.2.1 q.2.2) →
          mxP 0 0 (bnd rm) → hiP 0 0 0 0 (bnd rh) (bnd rm) → loP 0 0 (bnd rl) → OpTri E o T h i (quiet [] (.val (.slice none 0 0))) := by
        intro rl rh rm e1 e2 e3 z1 z2 z3
        refine tri_quiet fun B σ g w ρ hh _ hI hx => ?_
        have hd := hx x m0
        rw [hX] at hd
        generalize hv : ρ x = v at hd
        cases hd
        have hbd := run_bounds (P := E.P) (b := true) (len := 0) (cap := 0) w z1 z2 z3
        rw [← rd σ g ρ hx lo rl m1 e1, ← rd σ g ρ hx hi rh m2 e2, ← rd σ g ρ hx mx rm m3 e3] at hbd
        exact ⟨_, runS w ρ el sz by_ z none 0 0 0 0 0 ht ⟨ti, hel⟩ hv hbd, by simpa using Den.val _⟩
      split at hk
      · rename_i h1 h2 h3
        exact ⟨_, hk, fin none none none (none_of _ h1) (none_of _ h2) (none_of _ h3) rfl rfl rfl⟩
      · rename_i l kd a h1 h2 h3
        obtain ⟨p, hk⟩ := need_of hk
        exact ⟨_, hk, fin (some (l, kd, a)) none none (some_of _ _ _ _ h1) (none_of _ h2) (none_of _ h3) rfl rfl (by dsimp only [bnd, Option.map, loP]; omega)⟩
      · rename_i l kd a h1 h2 h3
        obtain ⟨p, hk⟩ := need_of hk
        exact ⟨_, hk, fin none (some (l, kd, a)) none (none_of _ h1) (some_of _ _ _ _ h2) (none_of _ h3) rfl (by dsimp only [bnd, Option.map, hiP]; omega) rfl⟩
      · rename_i l kd a l' kd' c h1 h2 h3
        obtain ⟨p, hk⟩ := need_of hk
        exact ⟨_, hk, fin none (some (l, kd, a)) (some (l', kd', c)) (none_of _ h1) (some_of _ _ _ _ h2) (some_of _ _ _ _ h3) (by dsimp only [bnd, Option.map, mxP]; omega) (by dsimp only [bnd, Option.map, hiP]; omega) rfl⟩
      · exact hk.elim
    · exact hk.elim
  · rename_i el sz by_ z b off len w' cap ht hX
    split at hk
    · rename_i ti hel
      have fin : ∀ (rl rh rm : Option (Bool × IntKind × Int)) (a n : Nat) (v : SV Y), ti.size = w' → lo.map (ev T) = rl.map (fun q => .int q.1 q.2.1 q.2.2) → hi.map (ev T) = rh.map (fun q => .int q.1 q.2.1 q.2.2) → mx.map (ev T) = rm.map (fun q => .int q.1 q.2.1 q.2.2) → a ≤ n →
          (∀ c, len ≤ c → c ≤ maxLen → (∀ q, cap = some q → c = q) → ∃ m, mxP m c (bnd rm) ∧ hiP n m len c (bnd rh) (bnd rm) ∧ loP a n (bnd rl) ∧ n ≤ m ∧ m ≤ c ∧
            ∀ σ g r z', σ b = some (r, z') → (off + c) * w' ≤ z' → Den E σ g v (.slice (some (if m = a then ⟨r, off * w', none⟩ else ⟨r, (off + a) * w', none⟩)) (n - a) (m - a))) → OpTri E o T h i (quiet [] v) := by
        intro rl rh rm a n v hw e1 e2 e3 hn hm
        refine tri_quiet fun B σ g w ρ hh _ hI hx => ?_
        have hd := hx x m0
        rw [hX] at hd
        obtain ⟨r, z', c, hv, hσ, hz, hl, hmx, hc⟩ := den_sl hd
        obtain ⟨m, q1, q2, q3, q4, q5, q6⟩ := hm c hl hmx hc
        have hbd := run_bounds (P := E.P) (b := true) (len := len) (cap := c) w q1 q2 q3
        rw [← rd σ g ρ hx lo rl m1 e1, ← rd σ g ρ hx hi rh m2 e2, ← rd σ g ρ hx mx rm m3 e3] at hbd
        refine ⟨_, runS w ρ el sz by_ z _ len c a n m ht ⟨ti, hel⟩ hv hbd, ?_⟩
        have hadd : (⟨r, off * w', none⟩ : Addr).add (a * ((E.ty el).map (·.size)).getD 0) = ⟨r, (off + a) * w', none⟩ := by rw [add_at, hel]; simp [hw, Nat.add_mul]
        have := q6 σ g r z' hσ hz
        simp only [Option.map_some, hadd]
        by_cases e : m = a
        · rw [if_pos e] at this ⊢; exact this
        · rw [if_neg e] at this ⊢; exact this
      -- a piece that has room
      have piece : ∀ (a n : Nat) (cap' : Option Nat) (c m : Nat) (σ : Pl) (g : GH) (r z' : Nat), a ≤ n → n ≤ m → m ≤ c → c ≤ maxLen → (a < m ∨ a = 0) → (∀ q, cap' = some q → m - a = q) → σ b = some (r, z') → (off + c) * w' ≤ z' →
          Den E σ g (.sl b (off + a) (n - a) w' cap') (.slice (some (if m = a then ⟨r, off * w', none⟩ else ⟨r, (off + a) * w', none⟩)) (n - a) (m - a)) := by
        intro a n cap' c m σ g r z' h1 h2 h3 h4 h5 h6 hσ hz
        have hz2 : (off + a + (m - a)) * w' ≤ z' := Nat.le_trans (Nat.mul_le_mul_right _ (by omega)) hz
        have := Den.sl (E := E) (g := g) (b := b) (off := off + a) (len := n - a) (w := w') (c := m - a) (cap := cap') hσ hz2 (by omega) (by omega) (fun q hq => h6 q hq)
        by_cases e : m = a
        · rw [if_pos e]
          rcases h5 with h5 | h5
          · omega
          · subst h5; exact this
        · rw [if_neg e]; exact this
      have none_ : ∀ (th : Y.Th) (x : Addr) (d : Nat) (σ : Pl) (g : GH), d ≤ maxLen → Den E σ g (.psl th [] false) (.slice (some x) 0 d) := by
        intro th x d σ g hd
        exact .psl (l := []) (fun _ _ => undef) (Nat.zero_le _) hd (by simp) (by simp) (by simp) (by simp)
      split at hk
      · rename_i hw h1 h2 h3
        have hw := Nat.eq_of_beq_eq_true hw
        exact ⟨_, hk, fin none none none 0 len _ hw (none_of _ h1) (none_of _ h2) (none_of _ h3) (Nat.zero_le _) (fun c hl hm hc => ⟨c, rfl, rfl, rfl, hl, Nat.le_refl _, fun σ g r z' hσ hz => by simpa using piece 0 len cap c c σ g r z' (by omega) hl (Nat.le_refl _) hm (.inr rfl) (fun q hq => by have := hc q hq; omega) hσ hz⟩)⟩
      · rename_i l kd c0 hw h1 h2 h3
        have hw := Nat.eq_of_beq_eq_true hw
        obtain ⟨p, hk⟩ := need_of hk
        exact ⟨_, hk, fin none (some (l, kd, c0)) none 0 c0.toNat _ hw (none_of _ h1) (some_of _ _ _ _ h2) (none_of _ h3) (Nat.zero_le _) (fun c hl hm hc => ⟨c, rfl, (by dsimp only [bnd, Option.map, hiP]; omega), rfl, by omega, Nat.le_refl _, fun σ g r z' hσ hz => by simpa using piece 0 c0.toNat cap c c σ g r z' (by omega) (by omega) (Nat.le_refl _) hm (.inr rfl) (fun q hq => by have := hc q hq; omega) hσ hz⟩)⟩
      · rename_i l kd c0 l' kd' m0' hw h1 h2 h3
        have hw := Nat.eq_of_beq_eq_true hw
        obtain ⟨p, hk⟩ := need_of hk
        exact ⟨_, hk, fin none (some (l, kd, c0)) (some (l', kd', m0')) 0 c0.toNat _ hw (none_of _ h1) (some_of _ _ _ _ h2) (some_of _ _ _ _ h3) (Nat.zero_le _) (fun c hl hm hc => ⟨m0'.toNat, (by dsimp only [bnd, Option.map, mxP]; omega), (by dsimp only [bnd, Option.map, hiP]; omega), rfl, by omega, by omega, fun σ g r z' hσ hz => by simpa using piece 0 c0.toNat (some m0'.toNat) c m0'.toNat σ g r z' (by omega) (by omega) (by omega) hm (.inr rfl) (fun q hq => by cases hq; omega) hσ hz⟩)⟩
      · rename_i l kd a0 hw h1 h2 h3
        have hw := Nat.eq_of_beq_eq_true hw
        obtain ⟨p, hk⟩ := need_of hk
        have hk := split_of hk
        split at hk
        · rename_i hlt
          have hlt := of_decide_eq_true hlt
          refine ⟨_, hk, fin (some (l, kd, a0)) none none a0.toNat len _ hw (some_of _ _ _ _ h1) (none_of _ h2) (none_of _ h3) (by omega) (fun c hl hm hc => ⟨c, rfl, rfl, (by dsimp only [bnd, Option.map, loP]; omega), hl, Nat.le_refl _, fun σ g r z' hσ hz => piece a0.toNat len _ c c σ g r z' (by omega) hl (Nat.le_refl _) hm (.inl (by omega)) (fun q hq => ?_) hσ hz⟩)⟩
          cases cap with
          | none => cases hq
          | some q0 => have := hc q0 rfl; simp only [capLess, Option.some.injEq] at hq; omega
        · rename_i th hlt htg
          have hlt := of_decide_eq_false hlt
          have e : len = a0.toNat := by omega
          refine ⟨_, hk, fin (some (l, kd, a0)) none none a0.toNat len _ hw (some_of _ _ _ _ h1) (none_of _ h2) (none_of _ h3) (by omega) (fun c hl hm hc => ⟨c, rfl, rfl, (by dsimp only [bnd, Option.map, loP]; omega), hl, Nat.le_refl _, fun σ g r z' hσ hz => ?_⟩)⟩
          rw [show len - a0.toNat = 0 by omega]
          exact none_ th _ _ σ g (by omega)
        · exact hk.elim
      · rename_i l kd a0 l' kd' c0 hw h1 h2 h3
        have hw := Nat.eq_of_beq_eq_true hw
        obtain ⟨p, hk⟩ := need_of hk
        have hk := split_of hk
        split at hk
        · rename_i hlt
          have hlt := of_decide_eq_true hlt
          refine ⟨_, hk, fin (some (l, kd, a0)) (some (l', kd', c0)) none a0.toNat c0.toNat _ hw (some_of _ _ _ _ h1) (some_of _ _ _ _ h2) (none_of _ h3) (by omega) (fun c hl hm hc => ⟨c, rfl, (by dsimp only [bnd, Option.map, hiP]; omega), (by dsimp only [bnd, Option.map, loP]; omega), by omega, Nat.le_refl _, fun σ g r z' hσ hz => piece a0.toNat c0.toNat _ c c σ g r z' (by omega) (by omega) (Nat.le_refl _) hm (.inl (by omega)) (fun q hq => ?_) hσ hz⟩)⟩
          cases cap with
          | none => cases hq
          | some q0 => have := hc q0 rfl; simp only [capLess, Option.some.injEq] at hq; omega
        · rename_i th hlt htg
          have hlt := of_decide_eq_false hlt
          refine ⟨_, hk, fin (some (l, kd, a0)) (some (l', kd', c0)) none a0.toNat c0.toNat _ hw (some_of _ _ _ _ h1) (some_of _ _ _ _ h2) (none_of _ h3) (by omega) (fun c hl hm hc => ⟨c, rfl, (by dsimp only [bnd, Option.map, hiP]; omega), (by dsimp only [bnd, Option.map, loP]; omega), by omega, Nat.le_refl _, fun σ g r z' hσ hz => ?_⟩)⟩
          rw [show c0.toNat - a0.toNat = 0 by omega]
          exact none_ th _ _ σ g (by omega)
        · exact hk.elim
      · exact hk.elim
    · exact hk.elim
  · rename_i sz by_ z l s ht hX
    have fin : ∀ (rl rh : Option (Bool × IntKind × Int)) (a b : Nat) (l' : Bool), lo.map (ev T) = rl.map (fun q => .int q.1 q.2.1 q.2.2) → hi.map (ev T) = rh.map (fun q => .int q.1 q.2.1 q.2.2) → mx.map (ev T) = none →
        hiP b s.size s.size s.size (bnd rh) none → loP a b (bnd rl) → OpTri E o T h i (quiet [] (.str l' (s.extract a b))) := by
      intro rl rh a b l' e1 e2 e3 z1 z2
      refine tri_quiet fun B σ g w ρ hh _ hI hx => ?_
      have hd := hx x m0
      rw [hX] at hd
      generalize hv : ρ x = v at hd
      cases hd
      have hbd := run_bounds (P := E.P) (b := false) (len := s.size) (cap := s.size) (lo := bnd rl) (hi := bnd rh) (mx := none) (l := a) (h := b) (m := s.size) w rfl
        z1 z2
      rw [← rd σ g ρ hx lo rl m1 e1, ← rd σ g ρ hx hi rh m2 e2] at hbd
      have e4 : mx.map ρ = none := by cases mx with | none => rfl | some y => simp at e3
      refine ⟨.string (s.extract a b), ?_, .str _ _⟩
      unfold execOp
      simp only [ho, Instr.sliceAt, Sem.run_bind, run_und_ty hE ht, Result.andThen_ok, Instr.slice, hv, e4, Option.isSome_none, Bool.false_eq_true, if_false]
      have hbd' : (Instr.sliceBounds false s.size s.size (lo.map ρ) (hi.map ρ) none).run E.P w = .ok (a, b, s.size) w := hbd
      simp only [Sem.run_bind, Sem.run_pure, Result.andThen_ok, hbd']
    split at hk
    · rename_i h1 h2 h3
      refine ⟨_, hk, ?_⟩
      have := fin none none 0 s.size l (none_of _ h1) (none_of _ h2) h3 rfl rfl
      have e : s.extract 0 s.size = s := by
        apply ByteArray.ext; simp
      rw [e] at this; exact this
    · rename_i m kd b h1 h2 h3
      obtain ⟨p, hk⟩ := need_of hk
      exact ⟨_, hk, fin none (some (m, kd, b)) 0 b.toNat _ (none_of _ h1) (some_of _ _ _ _ h2) h3 (by dsimp only [bnd, Option.map, hiP]; omega) rfl⟩
    · rename_i m kd a h1 h2 h3
      obtain ⟨p, hk⟩ := need_of hk
      exact ⟨_, hk, fin (some (m, kd, a)) none a.toNat s.size _ (some_of _ _ _ _ h1) (none_of _ h2) h3 rfl (by dsimp only [bnd, Option.map, loP]; omega)⟩
    · rename_i m kd a m' kd' b h1 h2 h3
      obtain ⟨p, hk⟩ := need_of hk
      exact ⟨_, hk, fin (some (m, kd, a)) (some (m', kd', b)) a.toNat b.toNat _ (some_of _ _ _ _ h1) (some_of _ _ _ _ h2) h3 (by dsimp only [bnd, Option.map, hiP]; omega) (by dsimp only [bnd, Option.map, loP]; omega)⟩
    · exact hk.elim
  · rename_i n el sz by_ z b ht hX
    split at hk
    · rename_i ti h1 h2 h3 hel
      split at hk
      · rename_i cs fz tg hb
        split at hk
        · rename_i hc
          simp only [Bool.and_eq_true, Nat.ble_eq] at hc
          have hcl : cs.length = n * ti.size := Nat.eq_of_beq_eq_true hc.1
          refine ⟨_, hk, tri_quiet fun B σ g w ρ hh hrd hI hx => ?_⟩
          have hd := hx x m0
          rw [hX] at hd
          generalize hv : ρ x = v at hd
          cases hd
          rename_i r z' hσ
          obtain ⟨r2, z2, hσ2, hbo⟩ := hI.blk b _ ((hrd b (by simp)).trans hb)
          rw [hσ] at hσ2; cases hσ2
          obtain ⟨arr, e, ha, hasz, hcl2, _⟩ := (BlkOk.cells_iff (by intro es e; cases e)).1 hbo
          simp only [Blk.cells] at hcl2
          have e4 : mx.map ρ = none := by cases mx with | none => rfl | some y => simp at h3
          have e5 : lo.map ρ = none := by cases lo with | none => rfl | some y => simp at h1
          have e6 : hi.map ρ = none := by cases hi with | none => rfl | some y => simp at h2
          have hbd := run_bounds (P := E.P) (b := false) (len := n) (cap := n) (lo := none) (hi := none) (mx := none) (l := 0) (h := n) (m := n) w rfl rfl rfl
          refine ⟨.slice (some (if n = 0 then ⟨r, 0, none⟩ else (⟨r, 0, none⟩ : Addr).add (0 * ti.size))) n n, ?_, ?_⟩
          · unfold execOp
            have hbd' : (Instr.sliceBounds false n n none none none).run E.P w = .ok (0, n, n) w := hbd
            simp only [ho, Instr.sliceAt, Sem.run_bind, run_und_ty hE ht, Result.andThen_ok, hv, Instr.sureAddr, Sem.run_pure, e4, e5, e6, hbd', run_sizeOf_ty hE hel, Nat.sub_zero]
          · have := Den.sl (E := E) (g := g) (b := b) (off := 0) (len := n) (w := ti.size) (c := n) (cap := some n) hσ (by rw [Nat.zero_add]; omega) (Nat.le_refl _) (by unfold maxLen; omega) (by intro m e; cases e; rfl)
            have ea : (if n = 0 then (⟨r, 0, none⟩ : Addr) else (⟨r, 0, none⟩ : Addr).add (0 * ti.size)) = ⟨r, 0 * ti.size, none⟩ := by split <;> simp [add_at]
            rw [ea]; exact this
        · exact hk.elim
      · exact hk.elim
    · exact hk.elim
  · exact hk.elim
end
end Go.Proofs.YtcaomfbcchemnaaDoor
