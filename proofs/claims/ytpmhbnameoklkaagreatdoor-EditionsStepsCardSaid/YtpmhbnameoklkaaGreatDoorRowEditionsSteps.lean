import Derived.Test.YtpmhbnameoklkaaGreatDoorMg
/- For every list of reports and two minutes, EditionsSteps returns true. -/
namespace Go.Proofs.YtpmhbnameoklkaaGreatDoor
open Go.ChangeShapes Go.WideShapes Go.ChangeAt Go.RowKit
set_option linter.unusedVariables false
set_option linter.unusedSimpArgs false
set_option maxRecDepth 100000

theorem Zf1:Rows.editionsStepsRow.wfByText (OpenSpec.ofChange Rows.editionsStepsSpec)=true:=by kernel_rfl
theorem Zdl:Tryz.prog.mainIs=some (true,("1d3dfa4aa572b2fe794702d35ba00370b457a21f3f06aa294548a69039eb282a" :String).toList):=by kernel_rfl
theorem Zcr:true=Tryz.prog.looks []:=by kernel_rfl
theorem Zdm:false=Rows.editionsStepsRow.goesBy Tryz.prog:=by kernel_rfl
theorem editionsSteps_card:Rows.EditionsStepsCardSaid:=
  Claim7.holds_tied_plain_at .later [] [.data,.data,.data,.data,.listed,.data,.mapped,.mapped,.pinned] true (true,"1d3dfa4aa572b2fe794702d35ba00370b457a21f3f06aa294548a69039eb282a") true
    editionsSteps_holds (fun _ h=>by cases h) Zf1 (fun _ h=>by cases h) editionsSteps_row_tie rfl ⟨rfl,rfl⟩ Zdl rfl
    (fun f fn hf hfn=>by
      obtain rfl:f=6:=Option.some.inj ((show Tryz.prog.funcNamed "wagonpool/wagonpoollaw22.EditionsSteps" =some 6 by kernel_rfl).symm.trans hf)|>.symm
      obtain rfl:fn=Tryz.f6:=(Option.some.inj (Tryz.func6.symm.trans hfn)).symm
      exact ⟨Zcr,fun j t ht=>by
        rw [Tryz.params6] at ht
        have hm:t∈ [22,3,3,3,3]:=by simpa using Array.mem_of_getElem? ht
        have hall:([22,3,3,3,3].all fun u=> !Tryz.prog.wantsStandIn u)=true:=by kernel_rfl
        exact (show Tryz.prog.wantsStandIn t=false by simpa using List.all_eq_true.1 hall t hm)⟩)
    Zdm
#print axioms editionsSteps_card
end Go.Proofs.YtpmhbnameoklkaaGreatDoor
