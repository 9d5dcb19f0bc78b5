import Derived.Test.YtpmhbnameoklkaaGreatDoorMg
/- For every list of reports and a further edition, EditionsLast returns true. -/
namespace Go.Proofs.YtpmhbnameoklkaaGreatDoor
open Go.ChangeShapes Go.WideShapes Go.ChangeAt Go.RowKit
set_option linter.unusedVariables false
set_option linter.unusedSimpArgs false
set_option maxRecDepth 100000

theorem Zha:Rows.editionsLastRow.wfByText (OpenSpec.ofChange Rows.editionsLastSpec)=true:=by kernel_rfl
theorem Ze0:Tryz.prog.mainIs=some (true,("1d3dfa4aa572b2fe794702d35ba00370b457a21f3f06aa294548a69039eb282a" :String).toList):=by kernel_rfl
theorem Zdk:true=Tryz.prog.looks []:=by kernel_rfl
theorem Ze1:false=Rows.editionsLastRow.goesBy Tryz.prog:=by kernel_rfl
theorem editionsLast_card:Rows.EditionsLastCardSaid:=
  Claim7.holds_tied_plain_at .later [] [.data,.data,.data,.data,.listed,.data,.mapped,.mapped,.pinned] true (true,"1d3dfa4aa572b2fe794702d35ba00370b457a21f3f06aa294548a69039eb282a") true
    editionsLast_holds (fun _ h=>by cases h) Zha (fun _ h=>by cases h) editionsLast_row_tie rfl ⟨rfl,rfl⟩ Ze0 rfl
    (fun f fn hf hfn=>by
      obtain rfl:f=7:=Option.some.inj ((show Tryz.prog.funcNamed "wagonpool/wagonpoollaw22.EditionsLast" =some 7 by kernel_rfl).symm.trans hf)|>.symm
      obtain rfl:fn=Tryz.f7:=(Option.some.inj (Tryz.func7.symm.trans hfn)).symm
      exact ⟨Zdk,fun j t ht=>by
        rw [Tryz.params7] at ht
        have hm:t∈ [22,3,3,9,3]:=by simpa using Array.mem_of_getElem? ht
        have hall:([22,3,3,9,3].all fun u=> !Tryz.prog.wantsStandIn u)=true:=by kernel_rfl
        exact (show Tryz.prog.wantsStandIn t=false by simpa using List.all_eq_true.1 hall t hm)⟩)
    Ze1
#print axioms editionsLast_card
end Go.Proofs.YtpmhbnameoklkaaGreatDoor
