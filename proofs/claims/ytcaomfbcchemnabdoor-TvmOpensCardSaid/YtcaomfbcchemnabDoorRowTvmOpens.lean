import Derived.Test.YtcaomfbcchemnabDoorMf
/- For all programs, attributes, states and numbers, TvmOpens returns true. -/
namespace Go.Proofs.YtcaomfbcchemnabDoor
open Go.ChangeShapes Go.WideShapes Go.ChangeAt Go.RowKit
set_option linter.unusedVariables false
set_option linter.unusedSimpArgs false
set_option maxRecDepth 100000

theorem tvmOpens_lifted (os : Os) (started : os.Started) (H : Type) (enc : TypeId × Value → H) :
    ReturnsInHanded {} Tryd.checked os 3 .any (fun w args => (Rows.tvmOpensSpec.pre enc Tryd.prog Tryd.f3 [] false w args ∧ laidMetH Tryd.prog laidB2 w) ∧ sizedMet enc Tryd.prog Tryd.f3 (OpenSpec.ofChange Rows.tvmOpensSpec) false w args)
      (Rows.tvmOpensSpec.post enc Tryd.prog Tryd.f3 false true false false) := by
  refine returnsInHanded_of_change_and (C := Tryd.checked) (X := fun w _ => laidMetH Tryd.prog laidB2 w) (fun _ _ _ hh h => h.of_heap hh) Tryd.own started (by kernel_rfl) Tryd.func3
    (ChangeSpec.witness_shaped (enc := enc) (C := Tryd.checked) (os := os) (X := fun w _ => laidMetH Tryd.prog laidB2 w) false (World.doorLaid Tryd.prog 600 os) #[.slice none 0 0, .agg #[.int .i64 0, .int .i64 0, .int .i64 0, .int .i64 0, .int .i64 0, .int .i64 0, .int .i64 0, .int .i64 0, .int .i64 0, .int .i64 0, .int .i64 0, .int .i64 0, .int .i64 0, .int .i64 0, .int .i64 0, .int .i64 0, .int .i64 0], .agg #[.int .i64 0, .int .i64 0, .int .i64 0, .int .i64 0, .slice none 0 0], .int .i64 0] 8 rfl (World.shaped_of_RefB (by kernel_rfl) (by kernel_rfl)) (by kernel_rfl) (by kernel_rfl) (by kernel_rfl) (door_met2 os _)) ?_
  intro W base args ds gs before hval0 hW _ _ hL _
  have hval : ∀ (j : Nat) t v, Tryd.f3.params[j]? = some t → args[j]? = some v → Value.okWide Tryd.prog W .any base t v := hval0
  have hW' := hW
  obtain ⟨p, q, hA0, hV, rfl, hfz, hnd⟩ := hW
  have hA : DataW.TrodAll enc Tryd.prog W 0 (fun _ => true) true Tryd.f3.params.toList args.toList ds p := hA0
  rw [Tryd.params3] at hA hval
  obtain ⟨v0, v1, v2, v3, d0, d1, d2, d3, p0, p1, p2, p3, rfl, rfl, rfl, h0, h1, h2, h3⟩ := trodAll_four hA
  obtain ⟨rfl, rfl⟩ := trodVars_none hV
  obtain ⟨c, hdc⟩ := open_code (hval 0 23 v0 rfl rfl) h0
  obtain ⟨x, hdx⟩ := open_env h1
  obtain ⟨s, hds⟩ := open_state h2
  obtain ⟨n, rfl, _, hrn, _⟩ := open_int Tryd.underlying3 (hval 3 3 v3 rfl rfl) h3
  refine (law_calls2 (opens_pure c x s n) hL (denL_cons hdc (denL_cons hdx (denL_cons hds (denL1 (.int _ _ _)))))).mono fun en W' ⟨hen, hw⟩ => ?_
  exact ⟨_, hen, post_true Tryd.laidOut rfl Tryd.underlying4 (by kernel_rfl) rfl hW' rfl rfl rfl hw⟩

theorem tvmOpens_holds : Rows.TvmOpensSaid :=
  OpenClaim.holds_of_wide 3 Tryd.f3 rfl rfl rfl rfl rfl rfl rfl ⟨rfl, rfl, rfl, rfl, rfl⟩ rfl rfl rfl rfl rfl (by kernel_rfl) Tryd.func3 (by kernel_rfl)
    (of_decide_eq_true (by kernel_rfl)) (by unfold Func.isWrapper; first | (rw [if_pos (by decide +kernel)]; kernel_rfl) | (rw [if_neg (by decide +kernel)]; exact ⟨rfl, rfl⟩))
    (fun os started H enc _ => tvmOpens_lifted os started H enc)

theorem tvmOpens_card : Rows.TvmOpensCardSaid :=
  Claim7.holds_tied_plain_at .later [] [.data, .funcs] true (true, "723528bd97c4e0e4f62a6cc4f471b07d49cc91748e6a5a83156894c7ec44c88a") true
    tvmOpens_holds (fun _ h => by cases h) (by kernel_rfl) (fun _ h => by cases h) tvmOpens_row_tie rfl ⟨rfl, rfl⟩ (by kernel_rfl) rfl
    (fun f fn hf hfn => by
      obtain rfl : f = 3 := Option.some.inj ((show Tryd.prog.funcNamed "wagonpool/wagonpoollaw21.TvmOpens" = some 3 by kernel_rfl).symm.trans hf) |>.symm
      obtain rfl : fn = Tryd.f3 := (Option.some.inj (Tryd.func3.symm.trans hfn)).symm
      exact ⟨by kernel_rfl, fun j t ht => by
        rw [Tryd.params3] at ht
        have hm : t ∈ [23, 26, 29, 3] := by simpa using Array.mem_of_getElem? ht
        have hall : ([23, 26, 29, 3].all fun u => !Tryd.prog.wantsStandIn u) = true := by kernel_rfl
        exact (show Tryd.prog.wantsStandIn t = false by simpa using List.all_eq_true.1 hall t hm)⟩)
    (by kernel_rfl)
#print axioms tvmOpens_card
end Go.Proofs.YtcaomfbcchemnabDoor
