import Derived.Test.YtpllflefaccmkaaDoorMe
/- For every tariff, TtypeFirstClause returns true. -/
namespace Go.Proofs.YtpllflefaccmkaaDoor
open Go.ChangeShapes Go.WideShapes Go.ChangeAt Go.RowKit
set_option linter.unusedVariables false
set_option linter.unusedSimpArgs false
set_option maxRecDepth 100000

theorem ttypeFirstClause_lifted (os : Os) (started : os.Started) (H : Type) (enc : TypeId × Value → H) :
    ReturnsInHanded {} Tryd.checked os 6 .any (fun w args => (Rows.ttypeFirstClauseSpec.pre enc Tryd.prog Tryd.f6 [] false w args ∧ laidMetH Tryd.prog laidM w) ∧ sizedMet enc Tryd.prog Tryd.f6 (OpenSpec.ofChange Rows.ttypeFirstClauseSpec) false w args)
      (Rows.ttypeFirstClauseSpec.post enc Tryd.prog Tryd.f6 false true false false) := by
  refine returnsInHanded_of_change_and (C := Tryd.checked) (X := fun w _ => laidMetH Tryd.prog laidM w) (fun _ _ _ hh h => h.of_heap hh) Tryd.own started (by kernel_rfl) Tryd.func6
    (ChangeSpec.witness_shaped (enc := enc) (C := Tryd.checked) (os := os) (X := fun w _ => laidMetH Tryd.prog laidM w) false (worldM os) #[.agg #[.string ⟨#[]⟩, .int .i64 0, .slice none 0 0]] 8 (worldM_os os) (shaped_M os _) (by kernel_rfl) (by kernel_rfl) (by kernel_rfl) (door_met os _)) ?_
  intro W base args ds gs before hval0 hW _ hz hL _
  have hval : ∀ (j : Nat) t v, Tryd.f6.params[j]? = some t → args[j]? = some v → Value.okWide Tryd.prog W .any base t v := hval0
  have hW' := hW
  obtain ⟨p, q, hA0, hV, rfl, hfz, hnd⟩ := hW
  have hA : DataW.TrodAll enc Tryd.prog W 0 (fun _ => true) true Tryd.f6.params.toList args.toList ds p := hA0
  rw [Tryd.params6] at hA hval hz
  obtain ⟨v0, d0, rfl, rfl, h0⟩ := trodAll_one hA
  obtain ⟨rfl, rfl⟩ := trodVars_none hV
  obtain ⟨t, hdt⟩ := open_tariff h0
  refine (law_calls (fc_pure t) hL (denL1 hdt)).mono fun en W' ⟨hen, hw⟩ => ?_
  exact ⟨_, hen, post_true Tryd.laidOut rfl Tryd.underlying4 (by kernel_rfl) rfl hW' rfl rfl rfl hw⟩

theorem ttypeFirstClause_holds : Rows.TtypeFirstClauseSaid :=
  OpenClaim.holds_of_wide 6 Tryd.f6 rfl rfl rfl rfl rfl rfl rfl ⟨rfl, rfl, rfl, rfl, rfl⟩ rfl rfl rfl rfl rfl (by kernel_rfl) Tryd.func6 (by kernel_rfl)
    (of_decide_eq_true (by kernel_rfl)) (by unfold Func.isWrapper; first | (rw [if_pos (by decide +kernel)]; kernel_rfl) | (rw [if_neg (by decide +kernel)]; exact ⟨rfl, rfl⟩))
    (fun os started H enc _ => ttypeFirstClause_lifted os started H enc)

theorem ttypeFirstClause_card : Rows.TtypeFirstClauseCardSaid :=
  Claim7.holds_tied_plain_at .later [] [.data, .listed, .data, .mapped, .mapped, .pinned] true (true, "319295b78f067bf42d1153db93b93d949b27fa016a00b5624df1bcd9a0003e27") true
    ttypeFirstClause_holds (fun _ h => by cases h) (by kernel_rfl) (fun _ h => by cases h) ttypeFirstClause_row_tie rfl ⟨rfl, rfl⟩ (by kernel_rfl) rfl
    (fun f fn hf hfn => by
      obtain rfl : f = 6 := Option.some.inj ((show Tryd.prog.funcNamed "wagonpool/wagonpoollaw17.TtypeFirstClause" = some 6 by kernel_rfl).symm.trans hf) |>.symm
      obtain rfl : fn = Tryd.f6 := (Option.some.inj (Tryd.func6.symm.trans hfn)).symm
      exact ⟨by kernel_rfl, fun j t ht => by
        rw [Tryd.params6] at ht
        have hm : t ∈ [38] := by simpa using Array.mem_of_getElem? ht
        have hall : ([38].all fun u => !Tryd.prog.wantsStandIn u) = true := by kernel_rfl
        exact (show Tryd.prog.wantsStandIn t = false by simpa using List.all_eq_true.1 hall t hm)⟩)
    (by kernel_rfl)
#print axioms ttypeFirstClause_card
end Go.Proofs.YtpllflefaccmkaaDoor
