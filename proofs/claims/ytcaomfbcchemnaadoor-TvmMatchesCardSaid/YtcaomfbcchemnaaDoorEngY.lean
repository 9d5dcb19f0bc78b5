/- A symbolic executor, part Y: operations that only read; the ways of a condition meet again. -/
import Derived.Test.YtcaomfbcchemnaaDoorEngK
namespace Go.Proofs.YtcaomfbcchemnaaDoor
open Go.RowKit
set_option linter.unusedVariables false

section
variable {Y : Thy} {E : Eng Y} {k k' : Res Y → Prop}
abbrev QM (k k' : Res Y → Prop) : Prop := ∀ rd v, k (quiet rd v) → k' (quiet rd v)
theorem sameN_mono {a b : Nat} {K K' : Prop} (h : K → K') : sameN a b K → sameN a b K' := by unfold sameN; split; exact h; exact id
theorem getK_mono {α : Type} {lit : Bool} {l : List α} {j : Nat} {f f' : α → Prop} (h : ∀ x, f x → f' x) : getK lit l j f → getK lit l j f' := by
  unfold getK
  split
  · split
    · exact h _
    · exact id
  · exact fun ⟨h1, h2⟩ => ⟨h1, fun x hx => h x (h2 x hx)⟩
theorem ixK_mono {α : Type} {lit : Bool} {l : List α} {n : Int} {f f' : α → Prop} (h : ∀ x, f x → f' x) : ixK lit l n f → ixK lit l n f' := by
  unfold ixK
  split
  · split
    · exact h _
    · exact id
  · exact fun ⟨h1, h2, h3⟩ => ⟨h1, h2, fun x hx => h x (h3 x hx)⟩
theorem strK_mono {lit : Bool} {s : ByteArray} {n : Int} {f f' : UInt8 → Prop} (h : ∀ x, f x → f' x) : strK lit s n f → strK lit s n f' := by
  unfold strK
  split
  · split
    · exact h _
    · exact id
  · exact fun ⟨h1, h2, h3⟩ => ⟨h1, h2, fun x hx => h x (h3 x hx)⟩
theorem caseK_mono {n : Int} {f f' : Nat → Prop} (h : ∀ j, f j → f' j) : ∀ {c j : Nat}, caseK n f c j → caseK n f' c j
  | 0, _ => id
  | c + 1, j => fun ⟨h1, h2⟩ => ⟨fun e => h _ (h1 e), fun e => caseK_mono h (h2 e)⟩
theorem need_mono {l : Bool} {p : Prop} [Decidable p] {K K' : Prop} (h : K → K') : need l p K → need l p K' := by
  unfold need
  split
  · split
    · exact h
    · exact id
  · exact fun ⟨h1, h2⟩ => ⟨h1, h h2⟩
theorem split_mono {l b : Bool} {K K' : Bool → Prop} (h : ∀ v, K v → K' v) : split l b K → split l b K' := by
  unfold split
  split
  · exact h _
  · exact fun ⟨h1, h2⟩ => ⟨fun e => h _ (h1 e), fun e => h _ (h2 e)⟩

theorem boolR_mono (hk : QM k k') {f v : Bool} : boolR f v k → boolR f v k' := split_mono fun v => hk _ _
theorem intR_mono (hk : QM k k') {f : Bool} {kd : IntKind} {n : Int} : intR f kd n k → intR f kd n k' := hk _ _
theorem sbinK_mono (hk : QM k k') {op : BinOp} {f m : Bool} {kd : IntKind} {a b : Int} : sbinK op f m kd a b k → sbinK op f m kd a b k' := by
  cases op <;> simp only [sbinK] <;> first | exact intR_mono hk | exact boolR_mono hk | exact need_mono (intR_mono hk)
theorem sbinI_mono (hk : QM k k') {op : BinOp} {l m : Bool} {kd kd' : IntKind} {a b : Int} : sbinI op l m kd kd' a b k → sbinI op l m kd kd' a b k' := by
  unfold sbinI
  split
  · exact need_mono (intR_mono hk)
  · exact need_mono (intR_mono hk)
  · split
    · exact id
    · exact sbinK_mono hk
theorem sbinS_mono (hk : QM k k') {op : BinOp} {l m : Bool} {a b : ByteArray} : sbinS op l m a b k → sbinS op l m a b k' := by
  unfold sbinS
  split
  · exact need_mono (hk _ _)
  · exact boolR_mono hk
  · exact boolR_mono hk
  · exact id
theorem sbinB_mono (hk : QM k k') {op : BinOp} {t : TypeId} {l m a b : Bool} : sbinB E op t l m a b k → sbinB E op t l m a b k' := by
  unfold sbinB
  split
  · split
    · exact boolR_mono hk
    · exact boolR_mono hk
    · exact id
  · exact id
theorem sbin_mono (hk : QM k k') {op : BinOp} {t : TypeId} {x y : SV Y} : sbin E op t x y k → sbin E op t x y k' := by
  unfold sbin
  split
  · exact sbinI_mono hk
  · exact sbinB_mono hk
  · exact sbinS_mono hk
  · exact id
theorem sbinA_mono (hk : QM k k') {op : BinOp} {t : TypeId} {x y : SV Y} : sbinA E op t x y k → sbinA E op t x y k' := by
  unfold sbinA
  split
  · split
    · split
      · exact split_mono fun v => hk _ _
      · exact split_mono fun v => hk _ _
      · exact id
    · exact id
  · exact sbin_mono hk
theorem sload_mono (hk : QM k k') {t : TypeId} {x : SV Y} {h : Hp Y} : sload E t x h k → sload E t x h k' := by
  unfold sload
  split
  · exact id
  · split
    · split
      · split
        · exact hk _ _
        · exact id
      · exact id
    · split
      · refine sameN_mono (getK_mono fun x => ?_)
        split
        · exact hk _ _
        · exact id
      · exact id
    · split
      · exact hk _ _
      · exact id
    · split
      · exact hk _ _
      · exact id
    · exact id
theorem sfieldAddr_mono (hk : QM k k') {t : TypeId} {x : SV Y} {f : Nat} : sfieldAddr E t x f k → sfieldAddr E t x f k' := by
  unfold sfieldAddr
  split
  · split
    · split
      · split
        · exact id
        · split
          · exact hk _ _
          · exact hk _ _
          · exact hk _ _
          · exact id
      · exact id
    · exact id
  · exact id
theorem sfield_mono (hk : QM k k') {t : TypeId} {x : SV Y} {f : Nat} : sfield E t x f k → sfield E t x f k' := by
  unfold sfield
  split
  · split
    · split
      · split
        · exact hk _ _
        · exact id
      · exact id
    · exact id
  · exact id
theorem sindexAddr_mono (hk : QM k k') {t : TypeId} {x ix : SV Y} {h : Hp Y} : sindexAddr E t x ix h k → sindexAddr E t x ix h k' := by
  unfold sindexAddr
  split
  · split
    · split
      · exact hk _ _
      · exact id
    · split
      · exact hk _ _
      · exact id
    · exact fun ⟨h1, h2, h3⟩ => ⟨h1, h2, caseK_mono (fun j => hk _ _) h3⟩
    · exact fun ⟨h1, h2, h3⟩ => ⟨h1, h2, caseK_mono (fun j => hk _ _) h3⟩
    · exact id
  · split
    · split
      · exact sameN_mono (ixK_mono fun x => hk _ _)
      · split
        · exact need_mono (sameN_mono (hk _ _))
        · exact need_mono (sameN_mono (sameN_mono (hk _ _)))
        · exact id
      · exact id
    · exact id
  · exact id
theorem sindex_mono (hk : QM k k') {t : TypeId} {x ix : SV Y} : sindex E t x ix k → sindex E t x ix k' := by
  unfold sindex
  split
  · split
    · split
      · exact hk _ _
      · exact id
    · split
      · exact fun ⟨h1, h2, h3⟩ => ⟨h1, h2, fun y hy => hk _ _ (h3 y hy)⟩
      · exact id
    · exact id
  · exact strK_mono fun y => hk _ _
  · exact id
theorem slen_mono (hk : QM k k') {t : TypeId} {x : SV Y} {h : Hp Y} : slen E t x h k → slen E t x h k' := by
  unfold slen
  split <;> first | exact hk _ _ | exact id
theorem sminmax_mono (hk : QM k k') {mx : Bool} {x : SV Y} {r : List (SV Y)} : sminmax mx x r k → sminmax mx x r k' := by
  unfold sminmax
  split
  · exact hk _ _
  · exact id
theorem sun_mono (hk : QM k k') {op : UnOp} {x : SV Y} : sun op x k → sun op x k' := by
  unfold sun
  split <;> first | exact hk _ _ | exact id
theorem sconvert_mono (hk : QM k k') {t : TypeId} {x : SV Y} : sconvert E t x k → sconvert E t x k' := by
  unfold sconvert
  split <;> first | exact hk _ _ | exact id

/-- An operation that only reads leaves memory as it is. -/
theorem step_mono (hk : QM k k') {call : Nat → List (SV Y) → Hp Y → Nat → (Res Y → Prop) → Prop} {op : Op} {T : Fr Y} {h : Hp Y} {i : Nat} (hq : quietOp op = true) : step E call op T h i k → step E call op T h i k' := by
  cases op <;> simp only [quietOp, Bool.false_eq_true] at hq <;> simp only [step]
  case move => exact hk _ _
  case pick =>
    unfold stPick
    split
    · exact split_mono fun v => by
        cases v
        · exact hk _ _
        · exact hk _ _
    · exact id
  case load => exact sload_mono hk
  case binOp => exact sbinA_mono hk
  case unOp => exact sun_mono hk
  case convert =>
    unfold stConv
    split
    · exact sconvert_mono hk
    · exact id
  case fieldAddr => exact sfieldAddr_mono hk
  case field => exact sfield_mono hk
  case indexAddr => exact sindexAddr_mono hk
  case index => exact sindex_mono hk
  case extract =>
    unfold stExt
    split
    · split
      · exact hk _ _
      · exact id
    · exact id
  case call c =>
    unfold stCall
    unfold quietC at hq
    split at hq
    · rename_i hc
      simp only [hc]
      unfold stLen
      split
      · exact slen_mono hk
      · exact id
    · rename_i hc
      simp only [hc]
      unfold stMm
      split
      · exact sminmax_mono hk
      · exact id
    · rename_i hc
      simp only [hc]
      unfold stMm
      split
      · exact sminmax_mono hk
      · exact id
    · cases hq

theorem keep_quiet {N : Nat} {d : Option Nat} {rd : List Nat} {v : SV Y} {T : Fr Y} {h : Hp Y} {i : Nat} {ms : List Nat} {k : Fr Y → Hp Y → Nat → List Nat → Prop} :
    keep N d (quiet rd v) T h i ms k ↔ (match d with | none => k T h i ms | some d => Nat.blt d N = true ∧ k (upd T d v) h i ms) := by
  cases d with
  | none => exact Iff.rfl
  | some d =>
    unfold keep
    simp only []
    cases hb : Nat.blt d N
    · simp
    · simp only [true_and]
      rw [show (quiet rd v).v = v from rfl, force_eq]
      exact Iff.rfl
theorem mem_dstsOf : ∀ {ops : List Oper} {o : Oper} {d : Nat}, o ∈ ops → o.dst = some d → d ∈ dstsOf ops
  | [], o, d, h, _ => by cases h
  | x :: r, o, d, h, e => by
    unfold dstsOf
    rcases List.mem_cons.1 h with rfl | h
    · rw [e]; simp
    · have := mem_dstsOf h e
      split
      · exact List.mem_cons_of_mem _ this
      · exact this
theorem dstOf_mem {all : List Oper} {j d : Nat} (h : dstOf all j = some d) : d ∈ dstsOf all := by
  unfold dstOf at h
  split at h
  · rename_i o ho
    exact mem_dstsOf (List.mem_of_getElem? ho) h
  · cases h
def AgreeOff (D : List Nat) (T T' : Fr Y) : Prop := ∀ j, j ∉ D → T' j = T j
theorem AgreeOff.upd {D : List Nat} {T : Fr Y} {d : Nat} {v : SV Y} (h : d ∈ D) : AgreeOff D T (upd T d v) := by
  intro j hj
  rw [upd_apply, if_neg (by rintro rfl; exact hj h)]
theorem AgreeOff.trans {D : List Nat} {T T1 T2 : Fr Y} (h : AgreeOff D T T1) (k : AgreeOff D T1 T2) : AgreeOff D T T2 := fun j hj => (k j hj).trans (h j hj)
/-- may the rest of a statement's operations be read so? all but the last ones, which only keep a value -/
def quietO (o : Oper) : Bool := quietOp o.op || (match o.op with | .assign _ => true | _ => false)
theorem step_mono' (hk : QM k k') {call : Nat → List (SV Y) → Hp Y → Nat → (Res Y → Prop) → Prop} {o : Oper} {T : Fr Y} {h : Hp Y} {i : Nat} (hq : quietO o = true) : step E call o.op T h i k → step E call o.op T h i k' := by
  unfold quietO at hq
  rw [Bool.or_eq_true] at hq
  rcases hq with h1 | h1
  · exact step_mono hk h1
  · split at h1
    · rename_i x e
      rw [e]
      exact hk _ _
    · cases h1
theorem rgn_quiet {N : Nat} {call : Nat → List (SV Y) → Hp Y → Nat → (Res Y → Prop) → Prop} {all : List Oper} {T0 : Fr Y} {h : Hp Y} {i : Nat} {ms : List Nat} {k k' : Fr Y → Hp Y → Nat → List Nat → Prop} (hk' : ∀ T', AgreeOff (dstsOf all) T0 T' → k T' h i ms → k' T' h i ms) :
    ∀ {ops : List Oper} {T : Fr Y}, (∀ o ∈ ops, o ∈ all ∧ quietO o = true) → AgreeOff (dstsOf all) T0 T → rgn E N call all ops T h i ms k → rgn E N call all ops T h i ms k'
  | [], T, _, hA, hk => hk' T hA hk
  | o :: r, T, hq, hA, hk => by
    have ho := hq o (by simp)
    have ih : ∀ {T1 : Fr Y}, AgreeOff (dstsOf all) T0 T1 → rgn E N call all r T1 h i ms k → rgn E N call all r T1 h i ms k' := fun hA hk => rgn_quiet hk' (fun o ho => hq o (List.mem_cons_of_mem _ ho)) hA hk
    have one : ∀ {T1 : Fr Y}, AgreeOff (dstsOf all) T0 T1 → step E call o.op T1 h i (fun res => keep N o.dst res T1 h i ms fun T h i ms => rgn E N call all r T h i ms k) →
        step E call o.op T1 h i (fun res => keep N o.dst res T1 h i ms fun T2 h2 i2 ms2 => rgn E N call all r T2 h2 i2 ms2 k') := by
      intro T1 hA hk
      refine step_mono' ?_ ho.2 hk
      intro rd v hk
      rw [keep_quiet] at hk ⊢
      cases hd : o.dst with
      | none => rw [hd] at hk; exact ih hA hk
      | some d => rw [hd] at hk; exact ⟨hk.1, ih (hA.trans (AgreeOff.upd (mem_dstsOf ho.1 hd))) hk.2⟩
    simp only [rgn] at hk ⊢
    split
    · rename_i e
      rw [e] at hk
      exact one hA hk
    · rename_i j b e
      rw [e] at hk
      simp only [] at hk
      split
      · rename_i d hd
        rw [hd] at hk
        simp only [] at hk
        have hD := dstOf_mem hd
        have hA1 : ∀ v, AgreeOff (dstsOf all) T0 (upd T d v) := fun v => hA.trans (AgreeOff.upd hD)
        split
        · rename_i l x hx
          rw [hx] at hk
          simp only [] at hk
          revert hk
          refine split_mono fun v => ?_
          have skip : ∀ v, (match o.dst with | none => rgn E N call all r (upd T d (.bool true v)) h i ms k | some d' => rgn E N call all r (upd (upd T d (.bool true v)) d' (.val undef)) h i ms k) →
              (match o.dst with | none => rgn E N call all r (upd T d (.bool true v)) h i ms k' | some d' => rgn E N call all r (upd (upd T d (.bool true v)) d' (.val undef)) h i ms k') := by
            intro v
            cases hdst : o.dst with
            | none => exact ih (hA1 _)
            | some d' => exact ih ((hA1 _).trans (AgreeOff.upd (mem_dstsOf ho.1 hdst)))
          cases v <;> cases b <;> first | exact one (hA1 _) | exact skip _
        · rename_i u hx
          rw [hx] at hk
          simp only [] at hk
          split
          · rename_i e3
            rw [e3] at hk
            exact hk
          · rename_i e3
            rw [e3] at hk
            simp only [] at hk
            cases hdst : o.dst with
            | none => rw [hdst] at hk; exact ih hA hk
            | some d' => rw [hdst] at hk; exact ih (hA.trans (AgreeOff.upd (mem_dstsOf ho.1 hdst))) hk
        · rename_i hx hx2
          split at hk
          · rename_i l x e2
            exact absurd e2 (hx l x)
          · rename_i u e2
            exact absurd e2 (hx2 u)
          · exact hk
      · rename_i hd
        rw [hd] at hk
        exact hk

theorem tailB_quiet {d : Nat} : ∀ {ops : List Oper} {l : List Nat}, tailB d ops = some l → ∀ o ∈ ops, quietO o = true
  | [], l, _, o, ho => by cases ho
  | x :: r, l, h, o, ho => by
    simp only [tailB] at h
    split at h
    · rename_i e1 e2 e3 e4
      rcases List.mem_cons.1 ho with rfl | ho
      · simp [quietO, e2]
      · exact tailB_quiet e4 o ho
    · rename_i e1 e2 e3 e4
      rcases List.mem_cons.1 ho with rfl | ho
      · simp [quietO, quietOp, e2]
      · exact tailB_quiet e4 o ho
    · cases h
theorem joinHere_quiet {x : Oper} {r : List Oper} {p : Nat × List Nat} (h : joinHere x r = some p) : ∀ o ∈ r, quietO o = true := by
  unfold joinHere at h
  split at h
  · split at h
    · rename_i e; exact tailB_quiet e
    · cases h
  · cases h
theorem joinD_quiet : ∀ {ops : List Oper} {g : Bool} {p : Nat × List Nat}, joinD ops g = some p → ∀ o ∈ ops, quietO o = true
  | [], g, p, h, o, ho => by cases ho
  | x :: r, g, p, h, o, ho => by
    unfold joinD at h
    split at h
    · rename_i hx
      have h0 : quietO x = true := by simp [quietO, hx]
      rcases List.mem_cons.1 ho with rfl | ho
      · exact h0
      · split at h
        · rename_i e
          exact joinHere_quiet e o ho
        · exact joinD_quiet h o ho
    · cases h
theorem maskT_apply {T : Fr Y} {j : Nat} : ∀ {D : List Nat}, maskT D T j = if j ∈ D then .unk else T j
  | [] => by simp [maskT]
  | d :: r => by
    unfold maskT
    rw [upd_apply, maskT_apply]
    by_cases h : j = d
    · simp [h]
    · simp [h]
theorem boolT_apply {T : Fr Y} {b : Bool} {j : Nat} : ∀ {D : List Nat}, boolT b D T j = if j ∈ D then .bool true b else T j
  | [] => by simp [boolT]
  | d :: r => by
    unfold boolT
    rw [upd_apply, boolT_apply]
    by_cases h : j = d
    · simp [h]
    · simp [h]
theorem boolsK_mem {T : Fr Y} {b : Bool} : ∀ {l : List Nat}, boolsK T b l → ∀ d ∈ l, ∃ f, T d = .bool f b
  | [], _, d, hd => by cases hd
  | x :: r, h, d, hd => by
    obtain ⟨h1, h2⟩ := h
    rcases List.mem_cons.1 hd with rfl | hd
    · split at h1
      · rename_i f b' e; exact ⟨f, by rw [e, h1]⟩
      · exact h1.elim
    · exact boolsK_mem h2 d hd
/-- behind a condition -/
theorem join_ok {N : Nat} {call : Nat → List (SV Y) → Hp Y → Nat → (Res Y → Prop) → Prop} {ops : List Oper} {T : Fr Y} {h : Hp Y} {i : Nat} {ms : List Nat} {d : Nat} {l : List Nat} {Q : Bool → Prop}
    (hj : joinD ops false = some (d, l)) (hr : rgn E N call ops ops T h i ms (fun T' _ _ _ => joinK d l Q T')) :
    rgn E N call ops ops T h i ms fun T' h' i' ms' => ∃ b, Q b ∧ h' = h ∧ i' = i ∧ ms' = ms ∧ (∀ σ g a, FrOk E σ g T' a → FrOk E σ g (boolT b (d :: l) (maskT (dstsOf ops) T)) a) := by
  refine rgn_quiet (T0 := T) (k := fun T' _ _ _ => joinK d l Q T') (fun T' hA hK => ?_) (fun o ho => ⟨ho, joinD_quiet hj o ho⟩) (fun _ _ => rfl) hr
  have key : ∃ b, Q b ∧ ∀ e ∈ d :: l, ∃ f, T' e = .bool f b := by
    unfold joinK at hK
    split at hK
    · split at hK
      · rename_i f b e
        exact ⟨b, hK, fun x hx => by rw [List.mem_singleton] at hx; subst hx; exact ⟨f, e⟩⟩
      · exact hK.elim
    · split at hK
      · rename_i f b e
        refine ⟨b, hK.2, fun x hx => ?_⟩
        rcases List.mem_cons.1 hx with rfl | hx
        · exact ⟨f, e⟩
        · exact boolsK_mem hK.1 x hx
      · exact hK.elim
  obtain ⟨b, hQ, hb⟩ := key
  refine ⟨b, hQ, rfl, rfl, rfl, fun σ g a hF t => ?_⟩
  rw [boolT_apply]
  split
  · rename_i ht
    obtain ⟨f, e⟩ := hb t ht
    have := hF t
    rw [e] at this
    generalize a.eval (.tmp t) = u at this
    cases this
    exact .bool _ _
  · rw [maskT_apply]
    split
    · exact .unk _
    · rename_i hn
      rw [← hA t hn]
      exact hF t
end
end Go.Proofs.YtcaomfbcchemnaaDoor
