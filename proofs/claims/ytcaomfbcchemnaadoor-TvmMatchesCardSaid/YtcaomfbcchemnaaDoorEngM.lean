/- A symbolic executor, part M: statements whose order is drawn: the path. -/
import Derived.Test.YtcaomfbcchemnaaDoorEngK
import Derived.Orders
namespace Go.Proofs.YtcaomfbcchemnaaDoor
open Go.RowKit
set_option linter.unusedVariables false

section
variable {Y : Thy} {E : Eng Y}

def Wr (d : DR Y) (b : Nat) : Prop := b ∈ d.r.mods ∨ (d.i ≤ b ∧ b < d.i + d.r.n)
/-- memory where those of D have run -/
def memD : List (DR Y) → (Nat → Bool) → Hp Y → Hp Y
  | [], _, h => h
  | d :: ds, D, h => memD ds (fun m => D (m + 1)) (bif D 0 then patch h d.i d.r else h)
/-- the frame where those of D have run -/
def tD : List Oper → List (DR Y) → (Nat → Bool) → Fr Y → Fr Y
  | o :: os, d :: ds, D, T => tD os ds (fun m => D (m + 1)) (bif D 0 then updO T o.dst d.r.v else T)
  | _, _, _, T => T

theorem patch_not {h : Hp Y} {d : DR Y} {b : Nat} (hb : ¬ Wr d b) : patch h d.i d.r b = h b := by rw [patch_eq]; exact if_neg hb
theorem patch_wr {h : Hp Y} {d : DR Y} {b : Nat} (hb : Wr d b) : patch h d.i d.r b = d.r.h b := by rw [patch_eq]; exact if_pos hb

theorem memD_congr : ∀ (ds : List (DR Y)) (D D' : Nat → Bool) (h h' : Hp Y) (b : Nat), (∀ m d, ds[m]? = some d → Wr d b → D m = D' m) → h b = h' b → memD ds D h b = memD ds D' h' b := by
  intro ds
  induction ds with
  | nil => intro D D' h h' b _ hb; exact hb
  | cons d ds ih =>
    intro D D' h h' b hw hb
    refine ih _ _ _ _ b (fun m d' hm => hw (m + 1) d' (by simpa using hm)) ?_
    by_cases hd : Wr d b
    · have := hw 0 d rfl hd
      rw [← this]
      cases D 0
      · exact hb
      · simp only [cond_true]; rw [patch_wr hd, patch_wr hd]
    · have e1 : (bif D 0 then patch h d.i d.r else h) b = h b := by cases D 0 <;> simp [patch_not hd]
      have e2 : (bif D' 0 then patch h' d.i d.r else h') b = h' b := by cases D' 0 <;> simp [patch_not hd]
      rw [e1, e2, hb]
theorem memD_false (ds : List (DR Y)) (h : Hp Y) : memD ds (fun _ => false) h = h := by
  induction ds generalizing h with
  | nil => rfl
  | cons d ds ih => simp only [memD]; exact ih h
theorem memD_set (b : Nat) : ∀ (ds : List (DR Y)) (D : Nat → Bool) (h : Hp Y) (m : Nat) (d : DR Y), ds[m]? = some d → D m = false → (Wr d b → ∀ m' d', m < m' → ds[m']? = some d' → Wr d' b → D m' = false) →
    memD ds (fun x => if x = m then true else D x) h b = patch (memD ds D h) d.i d.r b := by
  intro ds
  induction ds with
  | nil => intro D h m d hm; simp at hm
  | cons d0 ds ih =>
    intro D h m d hm hD0 hlater
    cases m with
    | zero =>
      obtain rfl : d0 = d := by simpa using hm
      simp only [memD]
      have e : (fun m => if m + 1 = 0 then true else D (m + 1)) = fun m => D (m + 1) := by funext m; simp
      rw [e, hD0]
      simp only [if_true, cond_true, cond_false]
      by_cases hw : Wr d0 b
      · rw [patch_wr hw]
        have hl := hlater hw
        rw [memD_congr ds _ (fun _ => false) _ (patch h d0.i d0.r) b (fun m' d' hm' hw' => hl (m' + 1) d' (by omega) (by simpa using hm') hw') rfl, memD_false, patch_wr hw]
      · rw [patch_not hw]
        exact memD_congr ds _ _ _ _ b (fun _ _ _ _ => rfl) (patch_not hw)
    | succ m =>
      simp only [memD]
      have e : (fun x => if x + 1 = m + 1 then true else D (x + 1)) = fun x => if x = m then true else (fun y => D (y + 1)) x := by funext x; simp
      rw [e, show (if (0 : Nat) = m + 1 then true else D 0) = D 0 from if_neg (by omega)]
      exact ih (fun y => D (y + 1)) _ m d (by simpa using hm) hD0 fun hw m' d' hlt hm' hw' => hlater hw (m' + 1) d' (by omega) (by simpa using hm') hw'

theorem updO_apply (T : Fr Y) (d : Option Nat) (v : SV Y) (t : Nat) : updO T d v t = if d = some t then v else T t := by
  cases d with
  | none => simp [updO]
  | some d =>
    simp only [updO, upd_apply, Option.some.injEq]
    by_cases e : t = d
    · subst e; simp
    · rw [if_neg e, if_neg (fun h => e h.symm)]
theorem tD_congr : ∀ (os : List Oper) (ds : List (DR Y)) (D D' : Nat → Bool) (T T' : Fr Y) (t : Nat), (∀ m o, os[m]? = some o → o.dst = some t → D m = D' m) → T t = T' t → tD os ds D T t = tD os ds D' T' t := by
  intro os
  induction os with
  | nil => intro ds D D' T T' t _ ht; simpa [tD] using ht
  | cons o os ih =>
    intro ds D D' T T' t hw ht
    cases ds with
    | nil => simpa [tD] using ht
    | cons d ds =>
      refine ih ds _ _ _ _ t (fun m o' hm => hw (m + 1) o' (by simpa using hm)) ?_
      by_cases hd : o.dst = some t
      · have := hw 0 o rfl hd
        rw [← this]
        cases D 0
        · exact ht
        · simp only [cond_true]; rw [updO_apply, updO_apply, if_pos hd, if_pos hd]
      · have e1 : (bif D 0 then updO T o.dst d.r.v else T) t = T t := by cases D 0 <;> simp [updO_apply, hd]
        have e2 : (bif D' 0 then updO T' o.dst d.r.v else T') t = T' t := by cases D' 0 <;> simp [updO_apply, hd]
        rw [e1, e2, ht]
theorem tD_false (os : List Oper) (ds : List (DR Y)) (T : Fr Y) : tD os ds (fun _ => false) T = T := by
  induction os generalizing ds with
  | nil => simp [tD]
  | cons o os ih => cases ds with
    | nil => simp [tD]
    | cons d ds => simp only [tD]; exact ih ds
theorem tD_set (t : Nat) : ∀ (os : List Oper) (ds : List (DR Y)) (D : Nat → Bool) (T : Fr Y) (m : Nat) (o : Oper) (d : DR Y), os[m]? = some o → ds[m]? = some d → D m = false → (o.dst = some t → ∀ m' o', m < m' → os[m']? = some o' → o'.dst = some t → D m' = false) →
    tD os ds (fun x => if x = m then true else D x) T t = updO (tD os ds D T) o.dst d.r.v t := by
  intro os
  induction os with
  | nil => intro ds D T m o d hm; simp at hm
  | cons o0 os ih =>
    intro ds D T m o d hm hmd hD0 hlater
    cases ds with
    | nil => simp at hmd
    | cons d0 ds =>
      cases m with
      | zero =>
        obtain rfl : o0 = o := by simpa using hm
        obtain rfl : d0 = d := by simpa using hmd
        simp only [tD]
        have e : (fun m => if m + 1 = 0 then true else D (m + 1)) = fun m => D (m + 1) := by funext m; simp
        rw [e, hD0]
        simp only [if_true, cond_true, cond_false]
        by_cases hw : o0.dst = some t
        · rw [updO_apply, if_pos hw]
          have hl := hlater hw
          rw [tD_congr os ds _ (fun _ => false) _ (updO T o0.dst d0.r.v) t (fun m' o' hm' hw' => hl (m' + 1) o' (by omega) (by simpa using hm') hw') rfl, tD_false, updO_apply, if_pos hw]
        · rw [updO_apply, if_neg hw]
          exact tD_congr os ds _ _ _ _ t (fun _ _ _ _ => rfl) (by rw [updO_apply, if_neg hw])
      | succ m =>
        simp only [tD]
        have e : (fun x => if x + 1 = m + 1 then true else D (x + 1)) = fun x => if x = m then true else (fun y => D (y + 1)) x := by funext x; simp
        rw [e, show (if (0 : Nat) = m + 1 then true else D 0) = D 0 from if_neg (by omega)]
        exact ih ds (fun y => D (y + 1)) _ m o d (by simpa using hm) (by simpa using hmd) hD0 fun hw m' o' hlt hm' hw' => hlater hw (m' + 1) o' (by omega) (by simpa using hm') hw'

/-- what is known of an operation in the order of the text -/
def OneOk (E : Eng Y) (all : List Oper) (o : Oper) (T : Fr Y) (view : Hp Y) (d : DR Y) : Prop :=
  match o.guard with
  | none => OpTri E o T view d.i d.r
  | some (g, b) => ∃ s l x, dstOf all g = some s ∧ T s = .bool l x ∧ ((x = b ∧ OpTri E o T view d.i d.r) ∨ (x ≠ b ∧ d.r = quiet [] .unk))
def POk (E : Eng Y) (all : List Oper) (mks : List Nat) : List Oper → Nat → Fr Y → Hp Y → Nat → List (Nat × DR Y) → List (DR Y) → Prop
  | [], _, _, _, _, _, [] => True
  | o :: os, j, T, h, i, prev, d :: ds => (d.i = i ∧ DomLt h i ∧ ROk h d.r ∧ apartDs d (unord (nthN mks j) prev) = true ∧ OneOk E all o T (viewD h (unord (nthN mks j) prev)) d) ∧
      POk E all mks os (j + 1) (updO T o.dst d.r.v) (patch h i d.r) (i + d.r.n) ((j, d) :: prev) ds
  | _, _, _, _, _, _, _ => False

theorem viewD_sub {h : Hp Y} {un : List (DR Y)} {b : Nat} {x : Blk Y} (hv : viewD h un b = some x) : h b = some x ∧ ∀ d ∈ un, ¬ (d.i ≤ b ∧ b < d.i + d.r.n) := by
  have any : ∀ l : List (DR Y), anyNew b l = false → ∀ d ∈ l, ¬ (d.i ≤ b ∧ b < d.i + d.r.n) := by
    intro l
    induction l with
    | nil => intro _ d hd; simp at hd
    | cons d0 l ih =>
      intro ha d hd
      simp only [anyNew, Bool.or_eq_false_iff] at ha
      rcases List.mem_cons.1 hd with rfl | hd
      · intro c
        have : d.new b = true := inNew_iff.2 c
        rw [this] at ha; cases ha.1
      · exact ih ha.2 d hd
  have mem : ∀ l : List (DR Y), ∀ d ∈ l, d ∈ withNew l ∨ d.r.n = 0 := by
    intro l
    induction l with
    | nil => intro d hd; simp at hd
    | cons d0 l ih =>
      intro d hd
      simp only [withNew]
      split
      · rename_i h0
        rcases List.mem_cons.1 hd with rfl | hd
        · exact .inr h0
        · exact ih d hd
      · rcases List.mem_cons.1 hd with rfl | hd
        · exact .inl (by simp)
        · exact (ih d hd).imp (fun h => by simp [h]) id
  unfold viewD at hv
  cases hw : withNew un with
  | nil =>
    rw [hw] at hv
    refine ⟨hv, fun d hd c => ?_⟩
    rcases mem un d hd with h1 | h1
    · rw [hw] at h1; simp at h1
    · omega
  | cons q qs =>
    rw [hw] at hv
    simp only at hv
    cases ha : anyNew b (q :: qs) with
    | true => rw [ha] at hv; cases hv
    | false =>
      rw [ha] at hv
      refine ⟨hv, fun d hd c => ?_⟩
      rcases mem un d hd with h1 | h1
      · rw [hw] at h1; exact any _ ha d h1 c
      · omega

theorem apartDs_quiet (i : Nat) (un : List (DR Y)) : apartDs (⟨i, quiet [] .unk⟩ : DR Y) un = true := by
  induction un with
  | nil => rfl
  | cons d un ih =>
    simp only [apartDs, ih, Bool.and_true]
    have n1 : ∀ l, disj l ([] : List Nat) = true := by
      intro l
      induction l with
      | nil => rfl
      | cons x l ih => simp [disj, memB, ih]
    have n2 : ∀ l, noneIn (⟨i, quiet [] .unk⟩ : DR Y) l = true := by
      intro l
      induction l with
      | nil => rfl
      | cons x l ih =>
        have : (⟨i, quiet [] .unk⟩ : DR Y).new x = false := by
          simp only [DR.new, quiet, Nat.add_zero]
          rw [Bool.and_eq_false_iff, ← Bool.not_eq_true, Nat.ble_eq, ← Bool.not_eq_true, Nat.blt, Nat.ble_eq]; omega
        simp [noneIn, ih, this]
    cases hr : d.r.rd with
    | none => simp [apartD, quiet, n1, noneIn, hr, isNil]
    | some l =>
      have := n2 l
      simp only [quiet] at this
      simp [apartD, quiet, n1, noneIn, hr, disj, this]

def msD : List (DR Y) → List Nat → List Nat
  | [], ms => ms
  | d :: ds, ms => msD ds (d.r.mods ++ ms)
def iD : List (DR Y) → Nat → Nat
  | [], i => i
  | d :: ds, i => iD ds (i + d.r.n)

theorem keep_eq {N : Nat} {d : Option Nat} {r : Res Y} {T : Fr Y} {h : Hp Y} {i : Nat} {ms : List Nat} {k : Fr Y → Hp Y → Nat → List Nat → Prop} (hD : DomLt h i) (hk : keep N d r T h i ms k) : k (updO T d r.v) (patch h i r) (i + r.n) (r.mods ++ ms) ∧ ∀ x, d = some x → x < N := by
  unfold keep at hk
  split at hk
  · exact ⟨keepM_ok hD hk, fun x hx => by cases hx⟩
  · split at hk
    · rename_i hd
      rw [force_eq] at hk
      exact ⟨keepM_ok hD hk, fun x hx => by cases hx; exact blt_lt hd⟩
    · exact hk.elim

theorem rgnD_path {N : Nat} {call : Nat → List (SV Y) → Hp Y → Nat → (Res Y → Prop) → Prop} (hstep : ∀ (o : Oper) T h i k, DomLt h i → step E call o.op T h i k → ∃ r, k r ∧ OpTri E o T h i r) (all : List Oper) (mks : List Nat) :
    ∀ (os : List Oper) (j : Nat) (T : Fr Y) (h : Hp Y) (i : Nat) (ms : List Nat) (prev : List (Nat × DR Y)) (k : Fr Y → Hp Y → Nat → List Nat → Prop), DomLt h i → rgnD E N call all mks os j T h i ms prev k →
      ∃ ds, POk E all mks os j T h i prev ds ∧ k (tD os ds (fun _ => true) T) (memD ds (fun _ => true) h) (iD ds i) (msD ds ms) ∧ (∀ (m : Nat) (o : Oper) (d : DR Y), os[m]? = some o → ds[m]? = some d → d.r.v ≠ .unk → ∀ x, o.dst = some x → x < N) := by
  intro os
  induction os with
  | nil => intro j T h i ms prev k hD hk; exact ⟨[], trivial, hk, fun m o d h => by simp at h⟩
  | cons o os ih =>
    intro j T h i ms prev k hD hk
    have domv : DomLt (viewD h (unord (nthN mks j) prev)) i := by
      intro b hb
      obtain ⟨x, hx⟩ := Option.ne_none_iff_exists'.1 hb
      exact hD b (by rw [(viewD_sub hx).1]; simp)
    have run : (OneOkP : DR Y → Prop) → (∀ d, OpTri E o T (viewD h (unord (nthN mks j) prev)) d.i d.r → OneOk E all o T (viewD h (unord (nthN mks j) prev)) d) →
        step E call o.op T (viewD h (unord (nthN mks j) prev)) i (fun res => (match apartDs ⟨i, res⟩ (unord (nthN mks j) prev) with
            | true => keep N o.dst res T h i ms fun T h i' ms => rgnD E N call all mks os (j + 1) T h i' ms ((j, ⟨i, res⟩) :: prev) k
            | false => False)) →
        ∃ ds, POk E all mks (o :: os) j T h i prev ds ∧ k (tD (o :: os) ds (fun _ => true) T) (memD ds (fun _ => true) h) (iD ds i) (msD ds ms) ∧ (∀ (m : Nat) (o' : Oper) (d : DR Y), (o :: os)[m]? = some o' → ds[m]? = some d → d.r.v ≠ .unk → ∀ x, o'.dst = some x → x < N) := by
      intro _ hone hk
      obtain ⟨r, hk, htri⟩ := hstep o T _ i _ domv hk
      split at hk
      · rename_i hap
        obtain ⟨hk, hlt⟩ := keep_eq hD hk
        have hR : ROk h r := fun b hb => by
          obtain ⟨x, hx⟩ := Option.ne_none_iff_exists'.1 (htri.1 b hb)
          rw [(viewD_sub hx).1]; simp
        obtain ⟨ds, h1, h2, h3⟩ := ih (j + 1) _ _ _ _ _ k (hD.patch hR) hk
        refine ⟨⟨i, r⟩ :: ds, ⟨⟨rfl, hD, hR, hap, hone ⟨i, r⟩ htri⟩, h1⟩, h2, fun m o' d hm hd hv x hx => ?_⟩
        cases m with
        | zero => obtain rfl : o = o' := by simpa using hm
                  exact hlt x hx
        | succ m => exact h3 m o' d (by simpa using hm) (by simpa using hd) hv x hx
      · exact hk.elim
    unfold rgnD at hk
    split at hk
    · rename_i hg
      exact run (fun _ => True) (fun d hd => by unfold OneOk; rw [hg]; exact hd) hk
    · rename_i g b hg
      split at hk
      · rename_i s hs
        split at hk
        · rename_i l x hT
          have hk := split_of hk
          split at hk
          · rename_i hxb
            have hxb : x = b := by simpa using hxb
            exact run (fun _ => True) (fun d hd => by unfold OneOk; rw [hg]; exact ⟨s, l, x, hs, hT, .inl ⟨hxb, hd⟩⟩) hk
          · rename_i hxb
            have hxb : x ≠ b := by rintro rfl; simp at hxb
            have hp : patch h i (quiet [] .unk) = h := patch_quiet h i [] .unk
            obtain ⟨ds, h1, h2, h3⟩ := ih (j + 1) _ _ _ _ _ k hD hk
            refine ⟨⟨i, quiet [] .unk⟩ :: ds, ⟨⟨rfl, hD, fun b hb => by simp [quiet] at hb, apartDs_quiet i _, by unfold OneOk; rw [hg]; exact ⟨s, l, x, hs, hT, .inr ⟨hxb, rfl⟩⟩⟩, ?_⟩, ?_, fun m o' d hm hd hv x hx => ?_⟩
            · show POk E all mks os (j + 1) _ (patch h i (quiet [] .unk)) _ _ ds
              rw [hp]; exact h1
            · show k (tD os ds _ _) (memD ds _ (patch h i (quiet [] .unk))) _ _
              rw [hp]; exact h2
            · cases m with
              | zero => obtain rfl : (⟨i, quiet [] .unk⟩ : DR Y) = d := by simpa using hd
                        exact absurd rfl hv
              | succ m => exact h3 m o' d (by simpa using hm) (by simpa using hd) hv x hx
        · exact hk.elim
      · exact hk.elim
end
end Go.Proofs.YtcaomfbcchemnaaDoor
