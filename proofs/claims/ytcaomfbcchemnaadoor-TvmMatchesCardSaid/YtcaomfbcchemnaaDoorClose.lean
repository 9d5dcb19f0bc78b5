/- The row's last step, for every law: it returns true, and what was there lies there unchanged. -/
import Derived.Test.YtcaomfbcchemnaaDoorRows
import Derived.Test.YtcaomfbcchemnaaDoorMem
import Derived.ProofKit
import Derived.OpenShut
namespace Go.Proofs.YtcaomfbcchemnaaDoor
open Go.ChangeShapes Go.WideShapes Go.ChangeAt Go.RowKit
set_option linter.unusedVariables false

theorem Tryd.own : ownKnob Tryd.prog.godebug = none := by kernel_rfl
theorem Tryd.laidOut : laidOutB Tryd.prog = true := by kernel_rfl

section
variable {H : Type} {enc : TypeId × Value → H} {P : Program}
theorem trodAll_stays (hl : laidOutB P = true) {W W' : World} {sp' : Nat → Bool} : ∀ {ts : List TypeId} {vs : List Value} {ds : List (DataW H)} {ps : List MemPlace}, (ts.all fun t => P.readableRec t && decide (t < P.types.size)) = true →
    DataW.TrodAll enc P W 0 (fun _ => true) true ts vs ds ps → (∀ x ∈ ps, W.sameAt W' x) → (∀ x ∈ ps, sp' x.block = true) → DataW.TrodAll enc P W' 0 sp' true ts vs ds ps := by
  intro ts
  induction ts with
  | nil =>
    intro vs ds ps _ h _ _
    obtain ⟨rfl, rfl, rfl⟩ := trodAll_nil h
    rfl
  | cons t ts ih =>
    intro vs ds ps ht h hs hp
    obtain ⟨v, vs', d, ds', p, q, rfl, rfl, rfl, hd, hr⟩ := trodAll_cons h
    simp only [List.all_cons, Bool.and_eq_true, decide_eq_true_eq] at ht
    exact ⟨p, q, WideElems.Trod_stays hl ht.1.1 ht.1.2 hd (fun x hx => hs x (by simp [hx])) (fun x hx => hp x (by simp [hx])),
      ih (by simpa using ht.2) hr (fun x hx => hs x (by simp [hx])) (fun x hx => hp x (by simp [hx])), rfl⟩

/-- The result true, the arguments as they were. -/
theorem post_true {f : Func} {s : ChangeSpec} {handsOn again : Bool} {W W' : World} {args : Array Value} {ds gs : List (DataW H)} {before : List MemPlace} {tb : TypeId} (hl : laidOutB P = true) (hr : f.resultTypes = #[tb]) (hb : P.underlying tb = some .bool)
    (hp : (f.params.toList.all fun t => P.readableRec t && decide (t < P.types.size)) = true) (hv : s.vars = []) (hW : DataW.Whole enc P f.params.toList s.vars false W args.toList ds gs before)
    (hres : (s.fn H (ds ++ gs)).results = [.lit (.bool true)]) (harg : (s.fn H (ds ++ gs)).args = ds) (hvar : (s.fn H (ds ++ gs)).vars = []) (hx : Ext W W') :
    s.post enc P f false true handsOn again W args (.bool true) W' := by
  have hbel : Below W.heap.size W W' := hx
  have hlt : ∀ p ∈ before, p.block < W.heap.size := fun p hp => hW.lt p hp
  have hW' := hW
  obtain ⟨pa, pv, hA, hV, hbe, hz, hn⟩ := hW
  rw [hv] at hV
  obtain ⟨hg, hpv⟩ := trodVars_none hV
  subst hpv
  rw [List.append_nil] at hbe
  subst hbe
  have hargs : ∀ sp : Nat → Bool, (∀ p ∈ before, sp p.block = true) → DataW.TrodAll enc P W' 0 sp true f.params.toList args.toList (s.fn H (ds ++ gs)).args before := fun sp h => by
    rw [harg]
    exact trodAll_stays hl hp hA (fun x hx => hbel.same (hlt x hx)) h
  have hvars : ∀ sp : Nat → Bool, DataW.TrodVars enc P W' sp s.vars (s.fn H (ds ++ gs)).vars [] := fun sp => by rw [hv, hvar]; rfl
  have hrs : ∀ (b : Nat) (sp : Nat → Bool) (hd : Bool), DataW.TrodAll enc P W' b sp hd f.resultTypes.toList ((Value.bool true).resultList f.resultTypes.size) (s.fn H (ds ++ gs)).results [] := fun b sp hd => by
    rw [hr, hres]
    exact ⟨[], [], shut_bool hb true, rfl, rfl⟩
  refine ⟨ds, gs, before, [], before, [], hW', hrs _ _ _, hargs _ (fun p hp => by simpa using hlt p hp), hvars _, World.keptBut_mono (fun p hp => ⟨hp, ?_⟩) (hbel.frame (· ∈ before)), fun _ => ?_⟩
  · simpa using hp
  · refine ⟨?_, _, _, ([] ++ before) ++ [], ⟨[] ++ before, [], trodAll_append (hargs _ (fun _ _ => rfl)) (hrs _ _ _), hvars _, rfl, ?_, ?_⟩, ?_⟩
    · intro j t r hj hrj
      rw [hr] at hj hrj
      match j, hj, hrj with
      | 0, hj, hrj =>
        obtain rfl : tb = t := by simpa using hj
        obtain rfl : Value.bool true = r := by simpa [Value.resultList] using hrj
        exact okWide_bool_mk hb true
      | j + 1, hj, hrj => simp at hj
    · intro b off hp
      have hin : MemPlace.cell b off ∈ before := by simpa using hp
      rw [hbel.frozen (hlt _ hin)]
      exact hz b off hin
    · intro ha; cases ha
    · intro p hp _
      simpa using hp
end
end Go.Proofs.YtcaomfbcchemnaaDoor
