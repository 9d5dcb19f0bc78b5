import Derived.Test.YtpmkapclhlmbbaaGreatDoorMf
/- For every tariff, TcodeCompiledIsSafe returns true. -/
namespace Go.Proofs.YtpmkapclhlmbbaaGreatDoor
open Go.ChangeShapes Go.WideShapes Go.ChangeAt Go.RowKit
set_option linter.unusedVariables false
set_option linter.unusedSimpArgs false
set_option maxRecDepth 100000

theorem tcodeCompiledIsSafe_lifted (os:Os) (started:os.Started) (H:Type) (enc:TypeId×Value->H):
    ReturnsInHanded {} Tryz.checked os 4 .any (fun w args=>(Rows.tcodeCompiledIsSafeSpec.pre enc Tryz.prog Tryz.f4 [] false w args/\laidMetH Tryz.prog Ze6 w)/\sizedMet enc Tryz.prog Tryz.f4 (OpenSpec.ofChange Rows.tcodeCompiledIsSafeSpec) false w args)
      (Rows.tcodeCompiledIsSafeSpec.post enc Tryz.prog Tryz.f4 false true false false):=by
  refine returnsInHanded_of_change_and (C:=Tryz.checked) (X:=fun w _=>laidMetH Tryz.prog Ze6 w) (fun _ _ _ hh h=>h.of_heap hh) Tryz.own started (by kernel_rfl) Tryz.func4
    (ChangeSpec.witness_shaped (enc:=enc) (C:=Tryz.checked) (os:=os) (X:=fun w _=>laidMetH Tryz.prog Ze6 w) false (Zjr os) #[.agg #[.string ⟨#[]⟩,.int .i64 0,.slice none 0 0]] 8 (Zvk os) (Zzf os _) (by kernel_rfl) (by kernel_rfl) (by kernel_rfl) (Zzg os _)) ?_
  intro W base args ds gs before hval0 hW _ hz hL _
  have hval:∀(j:Nat) t v,Tryz.f4.params[j]? =some t->args[j]? =some v->Value.okWide Tryz.prog W .any base t v:=hval0
  have hW':=hW
  obtain ⟨p,q,hA0,hV,rfl,hfz,hnd⟩:=hW
  have hA:DataW.TrodAll enc Tryz.prog W 0 (fun _=>true) true Tryz.f4.params.toList args.toList ds p:=hA0
  rw [Tryz.params4] at hA hval hz
  obtain ⟨v0,d0,rfl,rfl,h0⟩:=trodAll_one hA
  obtain ⟨rfl,rfl⟩:=trodVars_none hV
  obtain ⟨t,hdt⟩:=Zlb h0
  refine (Zww (Zuf Zut t) hL (Z70 hdt)).mono fun en W' ⟨hen,hw⟩=> ?_
  exact ⟨_,hen,Zwx Tryz.laidOut rfl Tryz.underlying4 (by kernel_rfl) rfl hW' rfl rfl rfl hw⟩

theorem tcodeCompiledIsSafe_holds:Rows.TcodeCompiledIsSafeSaid:=
  OpenClaim.holds_of_wide 4 Tryz.f4 rfl rfl rfl rfl rfl rfl rfl ⟨rfl,rfl,rfl,rfl,rfl⟩ rfl rfl rfl rfl rfl (by kernel_rfl) Tryz.func4 (by kernel_rfl)
    (of_decide_eq_true (by kernel_rfl)) (by unfold Func.isWrapper;first|(rw [if_pos (by decide+kernel)];kernel_rfl)|(rw [if_neg (by decide+kernel)];exact ⟨rfl,rfl⟩))
    (fun os started H enc _=>tcodeCompiledIsSafe_lifted os started H enc)

theorem tcodeCompiledIsSafe_card:Rows.TcodeCompiledIsSafeCardSaid:=
  Claim7.holds_tied_plain_at .later [] [.data,.data,.data,.data,.sentinel,.sentinel,.listed,.data,.mapped,.mapped,.widerDeep,.pinned] true (true,"c4d36a2424befea3e83faa70a958eb95ad5874525f598decf170b65f3b236d54") true
    tcodeCompiledIsSafe_holds (fun _ h=>by cases h) (by kernel_rfl) (fun _ h=>by cases h) tcodeCompiledIsSafe_row_tie rfl ⟨rfl,rfl⟩ (by kernel_rfl) rfl
    (fun f fn hf hfn=>by
      obtain rfl:f=4:=Option.some.inj ((show Tryz.prog.funcNamed "wagonpool/wagonpoollaw20.TcodeCompiledIsSafe" =some 4 by kernel_rfl).symm.trans hf)|>.symm
      obtain rfl:fn=Tryz.f4:=(Option.some.inj (Tryz.func4.symm.trans hfn)).symm
      exact ⟨by kernel_rfl,fun j t ht=>by
        rw [Tryz.params4] at ht
        have hm:t∈ [24]:=by simpa using Array.mem_of_getElem? ht
        have hall:([24].all fun u=> !Tryz.prog.wantsStandIn u)=true:=by kernel_rfl
        exact (show Tryz.prog.wantsStandIn t=false by simpa using List.all_eq_true.1 hall t hm)⟩)
    (by kernel_rfl)
#print axioms tcodeCompiledIsSafe_card
end Go.Proofs.YtpmkapclhlmbbaaGreatDoor
