import Derived.Test.YtllnabgpmcikiaaGreatDoorMc
/- For all integers, modes and lists, MoneyMatchesReference returns true. -/
namespace Go.Proofs.YtllnabgpmcikiaaGreatDoor
open Go.ChangeShapes Go.WideShapes Go.ChangeAt Go.RowKit
set_option linter.unusedVariables false
set_option linter.unusedSimpArgs false
set_option maxRecDepth 100000

theorem moneyMatchesReference_lifted (os : Os) (started : os.Started) (H : Type) (enc : TypeId × Value → H) :
    ReturnsInHanded {} Tryz.checked os 10 .any (fun w args => (Rows.moneyMatchesReferenceSpec.pre enc Tryz.prog Tryz.f10 [] false w args ∧ laidMetH Tryz.prog laidM w) ∧ sizedMet enc Tryz.prog Tryz.f10 (OpenSpec.ofChange Rows.moneyMatchesReferenceSpec) false w args)
      (Rows.moneyMatchesReferenceSpec.post enc Tryz.prog Tryz.f10 false true false false) := by
  refine returnsInHanded_of_change_and (C := Tryz.checked) (X := fun w _ => laidMetH Tryz.prog laidM w) (fun _ _ _ hh h => h.of_heap hh) Tryz.own started (by kernel_rfl) Tryz.func10
    (ChangeSpec.witness_shaped (enc := enc) (C := Tryz.checked) (os := os) (X := fun w _ => laidMetH Tryz.prog laidM w) false (World.laidAll Tryz.prog os laidM) #[.int .i64 0, .int .i64 0, .int .i64 0, .slice none 0 0] 8 (World.laidAll_os _ _ _) (shaped_M os) (by kernel_rfl) (by kernel_rfl) (by kernel_rfl) (door_met os _)) ?_
  intro W base args ds gs before hval0 hW _ hz hL _
  have hval : ∀ (j : Nat) t v, Tryz.f10.params[j]? = some t → args[j]? = some v → Value.okWide Tryz.prog W .any base t v := hval0
  have hW' := hW
  obtain ⟨p, q, hA0, hV, rfl, hfz, hnd⟩ := hW
  have hA : DataW.TrodAll enc Tryz.prog W 0 (fun _ => true) true Tryz.f10.params.toList args.toList ds p := hA0
  rw [Tryz.params10] at hA hval hz
  obtain ⟨v0, v1, v2, v3, d0, d1, d2, d3, p0, p1, p2, p3, rfl, rfl, rfl, h0, h1, h2, h3⟩ := trodAll_four hA
  obtain ⟨rfl, rfl⟩ := trodVars_none hV
  obtain ⟨x, rfl, _, hrx, _⟩ := open_int Tryz.underlying3 (hval 0 3 v0 rfl rfl) h0
  obtain ⟨y, rfl, _, hry, _⟩ := open_int Tryz.underlying3 (hval 1 3 v1 rfl rfl) h1
  obtain ⟨m, rfl, _, hrm, _⟩ := open_int Tryz.underlying3 (hval 2 3 v2 rfl rfl) h2
  obtain ⟨l, hdl, hll⟩ := open_intsB (j := 3) hz rfl rfl (hval 3 22 v3 rfl rfl) h3
  refine (law_calls (matches_pure x y m l (len8 hll)) hL (denL_cons (.int _ _ _) (denL_cons (.int _ _ _) (denL_cons (.int _ _ _) (denL1 hdl))))).mono fun en W' ⟨hen, hw⟩ => ?_
  exact ⟨_, hen, post_true Tryz.laidOut rfl Tryz.underlying4 (by kernel_rfl) rfl hW' rfl rfl rfl hw⟩

theorem moneyMatchesReference_holds : Rows.MoneyMatchesReferenceSaid :=
  OpenClaim.holds_of_wide 10 Tryz.f10 rfl rfl rfl rfl rfl rfl rfl ⟨rfl, rfl, rfl, rfl, rfl⟩ rfl rfl rfl rfl rfl (by kernel_rfl) Tryz.func10 (by kernel_rfl)
    (of_decide_eq_true (by kernel_rfl)) (by unfold Func.isWrapper; first | (rw [if_pos (by decide +kernel)]; kernel_rfl) | (rw [if_neg (by decide +kernel)]; exact ⟨rfl, rfl⟩))
    (fun os started H enc _ => moneyMatchesReference_lifted os started H enc)

theorem moneyMatchesReference_card : Rows.MoneyMatchesReferenceCardSaid :=
  Claim7.holds_tied_plain_at .later [] [.data, .data, .data, .data, .sentinel, .sentinel, .pinned] true (true, "cbb8616a306064059c342f3cd3ef86619281bdf42ef1e2bf4c40d3c39049f890") true
    moneyMatchesReference_holds (fun _ h => by cases h) (by kernel_rfl) (fun _ h => by cases h) moneyMatchesReference_row_tie rfl ⟨rfl, rfl⟩ (by kernel_rfl) rfl
    (fun f fn hf hfn => by
      obtain rfl : f = 10 := Option.some.inj ((show Tryz.prog.funcNamed "wagonpool/wagonpoollaw07.MoneyMatchesReference" = some 10 by kernel_rfl).symm.trans hf) |>.symm
      obtain rfl : fn = Tryz.f10 := (Option.some.inj (Tryz.func10.symm.trans hfn)).symm
      exact ⟨by kernel_rfl, fun j t ht => by
        rw [Tryz.params10] at ht
        have hm : t ∈ [3, 3, 3, 22] := by simpa using Array.mem_of_getElem? ht
        have hall : ([3, 3, 3, 22].all fun u => !Tryz.prog.wantsStandIn u) = true := by kernel_rfl
        exact (show Tryz.prog.wantsStandIn t = false by simpa using List.all_eq_true.1 hall t hm)⟩)
    (by kernel_rfl)
#print axioms moneyMatchesReference_card
end Go.Proofs.YtllnabgpmcikiaaGreatDoor
