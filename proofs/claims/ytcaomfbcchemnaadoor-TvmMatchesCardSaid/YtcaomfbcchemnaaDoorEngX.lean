/- A symbolic executor, part X: functions that change no older memory, once for every heap. -/
import Derived.Test.YtcaomfbcchemnaaDoorEngW
namespace Go.Proofs.YtcaomfbcchemnaaDoor
open Go.RowKit
set_option linter.unusedVariables false

section
variable {Y : Thy} {E : Eng Y} {F : Fns Y}

abbrev σ0 : Pl := fun _ => none
abbrev hp0 : Hp Y := fun _ => none
/-- A call of f with these arguments returns v and changes no older memory. -/
def PureC (E : Eng Y) (f : FuncId) (args : List (SV Y)) (v : SV Y) : Prop :=
  ∀ (g : GH) (w : World) (vals : Array Value), Inv E w.heap.size σ0 hp0 g w → DenL E σ0 g args vals.toList →
    Calls E.P f vals w fun en w' => ∃ u, en = .returned u ∧ ∃ g', Stp 0 0 [] σ0 g w σ0 g' w' ∧ Inv E w.heap.size σ0 hp0 g' w' ∧ Den E σ0 g' v u

theorem inv_none {B B' : Nat} {σ : Pl} {h : Hp Y} {g : GH} {w : World} (hI : Inv E B σ h g w) : Inv E B' σ0 hp0 g w :=
  ⟨hI.gc, hI.gm, (fun b x hx => by cases hx), fun b b' r z z' h1 => absurd rfl h1, (fun b r z hs => by cases hs), (fun b x r z o v hx => by cases hx), (fun b x r z hx => by cases hx), hI.glob⟩

theorem PureC.tri (hE : EngOk E) {f : FuncId} {args : List (SV Y)} {v : SV Y} (hp : PureC E f args v) (ha : nidL 0 args = true) (h : Hp Y) (i : Nat) : ROk h (quiet [] v) ∧ CallTri E f args h i (quiet [] v) := by
  refine ⟨fun b hb => by simp [quiet] at hb, ?_⟩
  intro B σ g w vals hh _ hI hB _ hd
  have hd0 : DenL E σ0 g args vals.toList := ⟨hd.1, fun j sv u h1 h2 => den_nid hE (i := 0) (hd.2 j sv u h1 h2) (fun b p hb => by omega) (nidL_get ha h1)⟩
  refine (hp g w vals (inv_none hI) hd0).mono ?_
  rintro en w' ⟨u, he, g', hS, hI', hv⟩
  have hheap : ∀ r, r < w.heap.size → w'.heap[r]? = w.heap[r]? := fun r hr => hS.heap r hr (by simp)
  refine ⟨u, he, σ, g', ⟨.refl _, fun b p h => .inl h, hS.gle, fun r o v hv => ?_, hS.gmnew, fun r hr _ => hheap r hr, hS.size, hS.os, hS.tape, hS.output, fun b r z h1 h2 => by rw [h1] at h2; cases h2⟩, ?_, hv.mono (fun b p h => by cases h) (.refl _)⟩
  · rcases hS.gcnew r o v hv with h1 | h1 | ⟨b, h1, _⟩
    · exact .inl h1
    · exact .inr (.inl h1)
    · simp at h1
  · rw [patch_quiet]
    refine ⟨hI'.gc, hI'.gm, ?_, hI.inj, fun b r z hs => ⟨(hI.base b r z hs).1, Nat.lt_of_lt_of_le (hI.base b r z hs).2 hS.size⟩, ?_, ?_, hI'.glob⟩
    · intro b x hx
      obtain ⟨r, z, h1, h2⟩ := hI.blk b x hx
      exact ⟨r, z, h1, h2.mono (.refl _) hS.gle (hheap r (hI.base b r z h1).2)⟩
    · intro b x r z o v hx hs hv
      rcases hS.gcnew r o v hv with h1 | h1 | ⟨b', h1, _⟩
      · exact hI.fz b x r z o v hx hs h1
      · have := (hI.base b r z hs).2; omega
      · simp at h1
    · intro b x r z hx hs
      cases hg : g'.obj r with
      | none => rfl
      | some es =>
        rcases hS.gmnew r es hg with h1 | h1
        · rw [hI.fm b x r z hx hs] at h1; cases h1
        · have := (hI.base b r z hs).2; omega

/-! What is returned, once nothing of the call's own memory is written any more. -/
def ret0 (E : Eng Y) (h : Hp Y) (v v' : SV Y) : Prop :=
  match v', v with
  | .psl th' l' false, .sl b off len w c => contK E h th' (.sl b off len w c) fun _ l _ => l = l'
  | v', v => le0 (fun _ => none) v v'
def retL (E : Eng Y) (h : Hp Y) : List (SV Y) → List (SV Y) → Prop
  | [], [] => True
  | x :: r, x' :: r' => ret0 E h x x' ∧ retL E h r r'
  | _, _ => False
def ret1 (E : Eng Y) (h : Hp Y) (v v' : SV Y) : Prop :=
  match v', v with
  | .agg cs', .agg cs => retL E h cs cs'
  | v', v => ret0 E h v v'
def retL1 (E : Eng Y) (h : Hp Y) : List (SV Y) → List (SV Y) → Prop
  | [], [] => True
  | x :: r, x' :: r' => ret1 E h x x' ∧ retL1 E h r r'
  | _, _ => False
def ret (E : Eng Y) (h : Hp Y) (v v' : SV Y) : Prop :=
  match v', v with
  | .tup cs', .tup cs => retL1 E h cs cs'
  | v', v => ret1 E h v v'

/-- all the memory from n on stays -/
def allG (g : GH) (n : Nat) (w : World) : GH :=
  { cell := fun r o => if n ≤ r then w.cell? ⟨r, o, none⟩ else g.cell r o
    obj := fun r => if n ≤ r then (match w.heap[r]? with | some (.map es _) => some es | _ => none) else g.obj r }
theorem allG_le {n : Nat} {g : GH} {w : World} {σ : Pl} {h : Hp Y} {B : Nat} (hI : Inv E B σ h g w) : g.le (allG g n w) := by
  refine ⟨fun r o v hv => ?_, fun r es hv => ?_⟩
  · show (if n ≤ r then _ else _) = _
    split
    · exact hI.gc r o v hv
    · exact hv
  · show (if n ≤ r then _ else _) = _
    split
    · obtain ⟨c, hc⟩ := hI.gm r es hv
      rw [hc]
    · exact hv
theorem allG_inv {n : Nat} {g : GH} {w : World} {σ : Pl} {h : Hp Y} {B B' : Nat} (hI : Inv E B σ h g w) : Inv E B' σ0 hp0 (allG g n w) w := by
  refine ⟨fun r o v hv => ?_, fun r es hv => ?_, (fun b x hx => by cases hx), fun b b' r z z' h1 => absurd rfl h1, (fun b r z hs => by cases hs), (fun b x r z o v hx => by cases hx), (fun b x r z hx => by cases hx), fun m sv hm => ?_⟩
  · have hv : (if n ≤ r then w.cell? ⟨r, o, none⟩ else g.cell r o) = some v := hv
    split at hv
    · exact hv
    · exact hI.gc r o v hv
  · have hv : (if n ≤ r then (match w.heap[r]? with | some (.map es _) => some es | _ => none) else g.obj r) = some es := hv
    split at hv
    · split at hv
      · rename_i es' c hc
        cases hv
        exact ⟨c, hc⟩
      · cases hv
    · exact hI.gm r es hv
  · obtain ⟨v, h1, h2⟩ := hI.glob m sv hm
    have hle := allG_le (n := n) hI
    exact ⟨v, hle.c _ _ _ h1, h2.mono (.refl _) hle⟩

theorem ret0_den (hE : EngOk E) {B n : Nat} {σ : Pl} {h : Hp Y} {g : GH} {w : World} (hI : Inv E B σ h g w) (hn : n ≤ B) {v v' : SV Y} {u : Value} (hr : ret0 E h v v') (hd : Den E σ g v u) : Den E σ0 (allG g n w) v' u := by
  have hle := allG_le (n := n) hI
  unfold ret0 at hr
  split at hr
  · rename_i th' l' b off len w' c
    obtain ⟨lit, l, rd, hk, hc⟩ := contK_ok hE hr
    have hk : l = l' := hk
    subst hk
    obtain ⟨base, cc, us, C⟩ := hc h σ g w B u (fun _ _ => rfl) hI hd
    obtain ⟨r, z, c1, e1, hσ, _⟩ := den_sl hd
    have e2 := C.v
    rw [e1] at e2
    injection e2 with e3 e4 e5
    rw [e1, e4, e5]
    have hpos := hE.pos th'
    have hget : ∀ q x, l[q]? = some x → ∀ j, j < E.w th' → ∃ y, us[q * E.w th' + j]? = some y := by
      intro q x hq j hj
      have hlt : q < l.length := (List.getElem?_eq_some_iff.1 hq).1
      have : (q + 1) * E.w th' ≤ l.length * E.w th' := Nat.mul_le_mul_right _ hlt
      rw [Nat.add_mul] at this
      exact ⟨_, List.getElem?_eq_getElem (by rw [C.len]; omega)⟩
    refine .psl (fun q j => us.getD (q * E.w th' + j) undef) C.le C.mx (by simp) (fun e => C.nil (e3 ▸ e)) (fun hp => ⟨r, off * w', rfl, ?_⟩) ?_
    · intro q x hq j hj
      rw [hE.enc] at hj
      obtain ⟨y, hy⟩ := hget q x hq j hj
      have := C.cell r (off * w') e3.symm _ y hy
      show (if n ≤ r then _ else _) = _
      rw [if_pos (Nat.le_trans hn (hI.base b r z hσ).1), List.getD_eq_getElem?_getD, hy, Nat.add_assoc]
      exact this
    · intro q x hq j sv hj
      have hjw : j < E.w th' := by rw [← hE.enc th' x]; exact (List.getElem?_eq_some_iff.1 hj).1
      obtain ⟨y, hy⟩ := hget q x hq j hjw
      rw [List.getD_eq_getElem?_getD, hy]
      have := C.den (q * E.w th' + j) sv y (by rw [flat_get hE th' l q x hq j hjw]; exact hj) hy
      exact (den_nid hE (i := 0) (σ' := σ0) this (fun b p hb => by omega) (nidL_get (hE.encI _ _ _) hj)).mono (.refl _) hle
  · exact (le0_den hE (σ' := σ0) (fun b c hc => by cases hc) hr hd).mono (.refl _) hle
theorem retL_get {h : Hp Y} : ∀ {cs cs' : List (SV Y)}, retL E h cs cs' → cs.length = cs'.length ∧ ∀ (j : Nat) sv', cs'[j]? = some sv' → ∃ sv, cs[j]? = some sv ∧ ret0 E h sv sv'
  | [], [], _ => ⟨rfl, fun j sv h => by simp at h⟩
  | x :: r, x' :: r', hr => by
    obtain ⟨h1, h2⟩ := hr
    obtain ⟨k1, k2⟩ := retL_get h2
    refine ⟨by simp [k1], fun j sv' hj => ?_⟩
    cases j with
    | zero => simp at hj; subst hj; exact ⟨x, rfl, h1⟩
    | succ j => exact k2 j sv' (by simpa using hj)
  | [], _ :: _, h => h.elim
  | _ :: _, [], h => h.elim
theorem ret1_den (hE : EngOk E) {B n : Nat} {σ : Pl} {h : Hp Y} {g : GH} {w : World} (hI : Inv E B σ h g w) (hn : n ≤ B) {v v' : SV Y} {u : Value} (hr : ret1 E h v v') (hd : Den E σ g v u) : Den E σ0 (allG g n w) v' u := by
  unfold ret1 at hr
  split at hr
  · obtain ⟨arr, c, rfl, hs, hc, hd⟩ := den_agg hd
    obtain ⟨e, hg⟩ := retL_get hr
    refine .agg c (by omega) (fun j hj => hc j (by omega)) fun j sv hj => ?_
    obtain ⟨sv0, h1, h2⟩ := hg j sv hj
    exact ret0_den hE hI hn h2 (hd j sv0 h1)
  · exact ret0_den hE hI hn hr hd
theorem retL1_get {h : Hp Y} : ∀ {cs cs' : List (SV Y)}, retL1 E h cs cs' → cs.length = cs'.length ∧ ∀ (j : Nat) sv', cs'[j]? = some sv' → ∃ sv, cs[j]? = some sv ∧ ret1 E h sv sv'
  | [], [], _ => ⟨rfl, fun j sv h => by simp at h⟩
  | x :: r, x' :: r', hr => by
    obtain ⟨h1, h2⟩ := hr
    obtain ⟨k1, k2⟩ := retL1_get h2
    refine ⟨by simp [k1], fun j sv' hj => ?_⟩
    cases j with
    | zero => simp at hj; subst hj; exact ⟨x, rfl, h1⟩
    | succ j => exact k2 j sv' (by simpa using hj)
  | [], _ :: _, h => h.elim
  | _ :: _, [], h => h.elim
theorem ret_den (hE : EngOk E) {B n : Nat} {σ : Pl} {h : Hp Y} {g : GH} {w : World} (hI : Inv E B σ h g w) (hn : n ≤ B) {v v' : SV Y} {u : Value} (hr : ret E h v v') (hd : Den E σ g v u) : Den E σ0 (allG g n w) v' u := by
  unfold ret at hr
  split at hr
  · obtain ⟨arr, c, rfl, hs, hc, hd⟩ := den_tup hd
    obtain ⟨e, hg⟩ := retL1_get hr
    refine .tup c (by omega) (fun j hj => hc j (by omega)) fun j sv hj => ?_
    obtain ⟨sv0, h1, h2⟩ := hg j sv hj
    exact ret1_den hE hI hn h2 (hd j sv0 h1)
  · exact ret1_den hE hI hn hr hd

/-- The executor shows what a function does, once for every heap. -/
theorem pure_of_call (hE : EngOk E) {call : Nat → List (SV Y) → Hp Y → Nat → (Res Y → Prop) → Prop} (hcall : CallOk E call) {f : Nat} {args : List (SV Y)} {v : SV Y} (hk : call f args hp0 0 fun r => ret E (patch hp0 0 r) r.v v) : PureC E f args v := by
  obtain ⟨r, hr, hR, htri⟩ := hcall f args hp0 0 _ (fun b hb => absurd rfl hb) hk
  intro g w vals hI hd
  refine (htri w.heap.size σ0 g w vals hp0 (fun _ _ => rfl) hI (Nat.le_refl _) (fun _ _ _ => rfl) hd).mono ?_
  rintro en w' ⟨u, he, σ', g', hS, hI', hv⟩
  have hm : ∀ b, b ∉ r.mods := fun b hb => hR b hb rfl
  have hle := allG_le (n := w.heap.size) hI'
  have hI2 : Inv E w.heap.size σ' (patch hp0 0 r) g' w' := hI'
  refine ⟨u, he, allG g' w.heap.size w', ⟨.refl _, fun b p h => .inl h, hS.gle.trans hle, fun q o v hv => ?_, fun q es hv => ?_, fun q hq _ => hS.heap q hq (fun b hb => absurd hb (hm b)), hS.size, hS.os, hS.tape, hS.output, (fun b q z h1 h2 => by cases h2)⟩, allG_inv hI', ?_⟩
  · have hv : (if w.heap.size ≤ q then w'.cell? ⟨q, o, none⟩ else g'.cell q o) = some v := hv
    split at hv
    · exact .inr (.inl ‹_›)
    · rcases hS.gcnew q o v hv with h1 | h1 | ⟨b, h1, _⟩
      · exact .inl h1
      · exact .inr (.inl h1)
      · exact absurd h1 (hm b)
  · have hv : (if w.heap.size ≤ q then (match w'.heap[q]? with | some (.map es _) => some es | _ => none) else g'.obj q) = some es := hv
    split at hv
    · exact .inr ‹_›
    · rcases hS.gmnew q es hv with h1 | h1
      · exact .inl h1
      · exact .inr h1
  · exact ret_den hE hI' (Nat.le_refl _) hr hv

theorem pure_of_callK (hE : EngOk E) {call : Nat → List (SV Y) → Hp Y → Nat → (Res Y → Prop) → Prop} (hcall : CallOk E call) {f : Nat} {args : List (SV Y)} {v : SV Y} {K : Res Y → Prop} (hK : ∀ r, K r → ret E (patch hp0 0 r) r.v v) (hk : call f args hp0 0 K) : PureC E f args v := by
  obtain ⟨r, hr, hR, htri⟩ := hcall f args hp0 0 _ (fun b hb => absurd rfl hb) hk
  exact pure_of_call hE (call := fun f' a' h' i' k' => ∃ r, k' r ∧ ROk h' r ∧ CallTri E f' a' h' i' r) (fun f' a' h' i' k' _ hk' => hk') ⟨r, hK r hr, hR, htri⟩

/-- without the flags -/
def unfl0 : SV Y → SV Y
  | .int _ k n => .int false k n
  | .bool _ b => .bool false b
  | .str _ s => .str false s
  | v => v
def unfl : SV Y → SV Y
  | .agg cs => .agg (cs.map unfl0)
  | v => unfl0 v
theorem unfl0_den {σ : Pl} {g : GH} {v : SV Y} {u : Value} (h : Den E σ g v u) : Den E σ g (unfl0 v) u := by
  cases v
  case int l k n => cases h; exact .int _ _ _
  case bool l b => cases h; exact .bool _ _
  case str l s => cases h; exact .str _ _
  all_goals exact h
theorem unfl_den {σ : Pl} {g : GH} {v : SV Y} {u : Value} (h : Den E σ g v u) : Den E σ g (unfl v) u := by
  cases v
  case agg cs =>
    obtain ⟨arr, c, rfl, hs, hc, hd⟩ := den_agg h
    refine .agg c (by simpa using hs) (fun j hj => hc j (by simpa using hj)) fun j sv hj => ?_
    rw [List.getElem?_map] at hj
    obtain ⟨s0, h1, rfl⟩ := Option.map_eq_some_iff.1 hj
    exact unfl0_den (hd j s0 h1)
  all_goals exact unfl0_den h
theorem PureC.fl {f : FuncId} {args : List (SV Y)} {v : SV Y} (h : PureC E f (args.map unfl) v) : PureC E f args v := by
  intro g w vals hI hd
  refine h g w vals hI ⟨by simpa using hd.1, fun j sv u h1 h2 => ?_⟩
  rw [List.getElem?_map] at h1
  obtain ⟨s0, h3, rfl⟩ := Option.map_eq_some_iff.1 h1
  exact unfl_den (hd.2 j s0 u h3 h2)
end
end Go.Proofs.YtcaomfbcchemnaaDoor
