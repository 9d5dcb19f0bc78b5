import Derived.Test.YtpllflefaccmkaaGreatDoorMf
/- For every tariff, TtypeCheckMatchesReference returns true. -/
namespace Go.Proofs.YtpllflefaccmkaaGreatDoor
open Go.ChangeShapes Go.WideShapes Go.ChangeAt Go.RowKit
set_option linter.unusedVariables false
set_option linter.unusedSimpArgs false
set_option maxRecDepth 100000

theorem ttypeCheckMatchesReference_lifted (os : Os) (started : os.Started) (H : Type) (enc : TypeId × Value → H) :
    ReturnsInHanded {} Tryz.checked os 3 .any (fun w args => (Rows.ttypeCheckMatchesReferenceSpec.pre enc Tryz.prog Tryz.f3 [] false w args ∧ laidMetH Tryz.prog laidM w) ∧ sizedMet enc Tryz.prog Tryz.f3 (OpenSpec.ofChange Rows.ttypeCheckMatchesReferenceSpec) false w args)
      (Rows.ttypeCheckMatchesReferenceSpec.post enc Tryz.prog Tryz.f3 false true false false) := by
  refine returnsInHanded_of_change_and (C := Tryz.checked) (X := fun w _ => laidMetH Tryz.prog laidM w) (fun _ _ _ hh h => h.of_heap hh) Tryz.own started (by kernel_rfl) Tryz.func3
    (ChangeSpec.witness_shaped (enc := enc) (C := Tryz.checked) (os := os) (X := fun w _ => laidMetH Tryz.prog laidM w) false (worldM os) #[.agg #[.string ⟨#[]⟩, .int .i64 0, .slice none 0 0]] 8 (worldM_os os) (shaped_M os _) (by kernel_rfl) (by kernel_rfl) (by kernel_rfl) (door_met os _)) ?_
  intro W base args ds gs before hval0 hW _ hz hL _
  have hval : ∀ (j : Nat) t v, Tryz.f3.params[j]? = some t → args[j]? = some v → Value.okWide Tryz.prog W .any base t v := hval0
  have hW' := hW
  obtain ⟨p, q, hA0, hV, rfl, hfz, hnd⟩ := hW
  have hA : DataW.TrodAll enc Tryz.prog W 0 (fun _ => true) true Tryz.f3.params.toList args.toList ds p := hA0
  rw [Tryz.params3] at hA hval hz
  obtain ⟨v0, d0, rfl, rfl, h0⟩ := trodAll_one hA
  obtain ⟨rfl, rfl⟩ := trodVars_none hV
  obtain ⟨t, hdt⟩ := open_tariff h0
  refine (law_calls (cm_pure t) hL (denL1 hdt)).mono fun en W' ⟨hen, hw⟩ => ?_
  exact ⟨_, hen, post_true Tryz.laidOut rfl Tryz.underlying4 (by kernel_rfl) rfl hW' rfl rfl rfl hw⟩

theorem ttypeCheckMatchesReference_holds : Rows.TtypeCheckMatchesReferenceSaid :=
  OpenClaim.holds_of_wide 3 Tryz.f3 rfl rfl rfl rfl rfl rfl rfl ⟨rfl, rfl, rfl, rfl, rfl⟩ rfl rfl rfl rfl rfl (by kernel_rfl) Tryz.func3 (by kernel_rfl)
    (of_decide_eq_true (by kernel_rfl)) (by unfold Func.isWrapper; first | (rw [if_pos (by decide +kernel)]; kernel_rfl) | (rw [if_neg (by decide +kernel)]; exact ⟨rfl, rfl⟩))
    (fun os started H enc _ => ttypeCheckMatchesReference_lifted os started H enc)

theorem ttypeCheckMatchesReference_card : Rows.TtypeCheckMatchesReferenceCardSaid :=
  Claim7.holds_tied_plain_at .later [] [.data, .listed, .data, .mapped, .mapped, .pinned] true (true, "dd655a8f4eb2405271853c5b8d35e991f0eeff459b110dadd45211db8afb1210") true
    ttypeCheckMatchesReference_holds (fun _ h => by cases h) (by kernel_rfl) (fun _ h => by cases h) ttypeCheckMatchesReference_row_tie rfl ⟨rfl, rfl⟩ (by kernel_rfl) rfl
    (fun f fn hf hfn => by
      obtain rfl : f = 3 := Option.some.inj ((show Tryz.prog.funcNamed "wagonpool/wagonpoollaw17.TtypeCheckMatchesReference" = some 3 by kernel_rfl).symm.trans hf) |>.symm
      obtain rfl : fn = Tryz.f3 := (Option.some.inj (Tryz.func3.symm.trans hfn)).symm
      exact ⟨by kernel_rfl, fun j t ht => by
        rw [Tryz.params3] at ht
        have hm : t ∈ [24] := by simpa using Array.mem_of_getElem? ht
        have hall : ([24].all fun u => !Tryz.prog.wantsStandIn u) = true := by kernel_rfl
        exact (show Tryz.prog.wantsStandIn t = false by simpa using List.all_eq_true.1 hall t hm)⟩)
    (by kernel_rfl)
#print axioms ttypeCheckMatchesReference_card
end Go.Proofs.YtpllflefaccmkaaGreatDoor
