import Derived.Test.YtpmkapclhlmbbaaGreatDoorMf
/- For every tariff, TcodeCompileMatchesReference returns true. -/
namespace Go.Proofs.YtpmkapclhlmbbaaGreatDoor
open Go.ChangeShapes Go.WideShapes Go.ChangeAt Go.RowKit
set_option linter.unusedVariables false
set_option linter.unusedSimpArgs false
set_option maxRecDepth 100000

theorem tcodeCompileMatchesReference_lifted (os:Os) (started:os.Started) (H:Type) (enc:TypeId×Value->H):
    ReturnsInHanded {} Tryz.checked os 3 .any (fun w args=>(Rows.tcodeCompileMatchesReferenceSpec.pre enc Tryz.prog Tryz.f3 [] false w args/\laidMetH Tryz.prog Ze3 w)/\sizedMet enc Tryz.prog Tryz.f3 (OpenSpec.ofChange Rows.tcodeCompileMatchesReferenceSpec) false w args)
      (Rows.tcodeCompileMatchesReferenceSpec.post enc Tryz.prog Tryz.f3 false true false false):=by
  refine returnsInHanded_of_change_and (C:=Tryz.checked) (X:=fun w _=>laidMetH Tryz.prog Ze3 w) (fun _ _ _ hh h=>h.of_heap hh) Tryz.own started (by kernel_rfl) Tryz.func3
    (ChangeSpec.witness_shaped (enc:=enc) (C:=Tryz.checked) (os:=os) (X:=fun w _=>laidMetH Tryz.prog Ze3 w) false (Zjy os) #[.agg #[.string ⟨#[]⟩,.int .i64 0,.slice none 0 0]] 8 (Zvd os) (Z0l os _) (by kernel_rfl) (by kernel_rfl) (by kernel_rfl) (Z0m os _)) ?_
  intro W base args ds gs before hval0 hW _ hz hL _
  have hval:∀(j:Nat) t v,Tryz.f3.params[j]? =some t->args[j]? =some v->Value.okWide Tryz.prog W .any base t v:=hval0
  have hW':=hW
  obtain ⟨p,q,hA0,hV,rfl,hfz,hnd⟩:=hW
  have hA:DataW.TrodAll enc Tryz.prog W 0 (fun _=>true) true Tryz.f3.params.toList args.toList ds p:=hA0
  rw [Tryz.params3] at hA hval hz
  obtain ⟨v0,d0,rfl,rfl,h0⟩:=trodAll_one hA
  obtain ⟨rfl,rfl⟩:=trodVars_none hV
  obtain ⟨t,hdt⟩:=Zll h0
  refine (Zxx (Zw6 Zug t) hL (Z82 hdt)).mono fun en W' ⟨hen,hw⟩=> ?_
  exact ⟨_,hen,Zxy Tryz.laidOut rfl Tryz.underlying4 (by kernel_rfl) rfl hW' rfl rfl rfl hw⟩

theorem tcodeCompileMatchesReference_holds:Rows.TcodeCompileMatchesReferenceSaid:=
  OpenClaim.holds_of_wide 3 Tryz.f3 rfl rfl rfl rfl rfl rfl rfl ⟨rfl,rfl,rfl,rfl,rfl⟩ rfl rfl rfl rfl rfl (by kernel_rfl) Tryz.func3 (by kernel_rfl)
    (of_decide_eq_true (by kernel_rfl)) (by unfold Func.isWrapper;first|(rw [if_pos (by decide+kernel)];kernel_rfl)|(rw [if_neg (by decide+kernel)];exact ⟨rfl,rfl⟩))
    (fun os started H enc _=>tcodeCompileMatchesReference_lifted os started H enc)

theorem tcodeCompileMatchesReference_card:Rows.TcodeCompileMatchesReferenceCardSaid:=
  Claim7.holds_tied_plain_at .later [] [.data,.data,.data,.data,.sentinel,.sentinel,.listed,.data,.mapped,.mapped,.widerDeep,.pinned] true (true,"c4d36a2424befea3e83faa70a958eb95ad5874525f598decf170b65f3b236d54") true
    tcodeCompileMatchesReference_holds (fun _ h=>by cases h) (by kernel_rfl) (fun _ h=>by cases h) tcodeCompileMatchesReference_row_tie rfl ⟨rfl,rfl⟩ (by kernel_rfl) rfl
    (fun f fn hf hfn=>by
      obtain rfl:f=3:=Option.some.inj ((show Tryz.prog.funcNamed "wagonpool/wagonpoollaw20.TcodeCompileMatchesReference" =some 3 by kernel_rfl).symm.trans hf)|>.symm
      obtain rfl:fn=Tryz.f3:=(Option.some.inj (Tryz.func3.symm.trans hfn)).symm
      exact ⟨by kernel_rfl,fun j t ht=>by
        rw [Tryz.params3] at ht
        have hm:t∈ [24]:=by simpa using Array.mem_of_getElem? ht
        have hall:([24].all fun u=> !Tryz.prog.wantsStandIn u)=true:=by kernel_rfl
        exact (show Tryz.prog.wantsStandIn t=false by simpa using List.all_eq_true.1 hall t hm)⟩)
    (by kernel_rfl)
#print axioms tcodeCompileMatchesReference_card
end Go.Proofs.YtpmkapclhlmbbaaGreatDoor
