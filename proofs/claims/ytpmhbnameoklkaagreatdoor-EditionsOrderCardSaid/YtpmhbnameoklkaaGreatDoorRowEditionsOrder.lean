import Derived.Test.YtpmhbnameoklkaaGreatDoorMg
/- For every list of reports, a railway, a kind, a minute and an index, EditionsOrder returns true. -/
namespace Go.Proofs.YtpmhbnameoklkaaGreatDoor
open Go.ChangeShapes Go.WideShapes Go.ChangeAt Go.RowKit
set_option linter.unusedVariables false
set_option linter.unusedSimpArgs false
set_option maxRecDepth 100000

theorem Zf3:Rows.editionsOrderRow.wfByText (OpenSpec.ofChange Rows.editionsOrderSpec)=true:=by kernel_rfl
theorem Zea:Tryz.prog.mainIs=some (true,("1d3dfa4aa572b2fe794702d35ba00370b457a21f3f06aa294548a69039eb282a" :String).toList):=by kernel_rfl
theorem Zda:true=Tryz.prog.looks []:=by kernel_rfl
theorem Zeb:false=Rows.editionsOrderRow.goesBy Tryz.prog:=by kernel_rfl
theorem editionsOrder_card:Rows.EditionsOrderCardSaid:=
  Claim7.holds_tied_plain_at .later [] [.data,.data,.data,.data,.listed,.data,.mapped,.mapped,.pinned] true (true,"1d3dfa4aa572b2fe794702d35ba00370b457a21f3f06aa294548a69039eb282a") true
    editionsOrder_holds (fun _ h=>by cases h) Zf3 (fun _ h=>by cases h) editionsOrder_row_tie rfl ⟨rfl,rfl⟩ Zea rfl
    (fun f fn hf hfn=>by
      obtain rfl:f=5:=Option.some.inj ((show Tryz.prog.funcNamed "wagonpool/wagonpoollaw22.EditionsOrder" =some 5 by kernel_rfl).symm.trans hf)|>.symm
      obtain rfl:fn=Tryz.f5:=(Option.some.inj (Tryz.func5.symm.trans hfn)).symm
      exact ⟨Zda,fun j t ht=>by
        rw [Tryz.params5] at ht
        have hm:t∈ [22,3,3,3,3]:=by simpa using Array.mem_of_getElem? ht
        have hall:([22,3,3,3,3].all fun u=> !Tryz.prog.wantsStandIn u)=true:=by kernel_rfl
        exact (show Tryz.prog.wantsStandIn t=false by simpa using List.all_eq_true.1 hall t hm)⟩)
    Zeb
#print axioms editionsOrder_card
end Go.Proofs.YtpmhbnameoklkaaGreatDoor
