import Derived.Test.YtpmhbnameoklkaaGreatDoorMg
/- For every list of reports, EditionsCompiles returns true. -/
namespace Go.Proofs.YtpmhbnameoklkaaGreatDoor
open Go.ChangeShapes Go.WideShapes Go.ChangeAt Go.RowKit
set_option linter.unusedVariables false
set_option linter.unusedSimpArgs false
set_option maxRecDepth 100000

theorem Zcp:Rows.editionsCompilesRow.wfByText (OpenSpec.ofChange Rows.editionsCompilesSpec)=true:=by kernel_rfl
theorem Zai:Tryz.prog.mainIs=some (true,("1d3dfa4aa572b2fe794702d35ba00370b457a21f3f06aa294548a69039eb282a" :String).toList):=by kernel_rfl
theorem Zac:true=Tryz.prog.looks []:=by kernel_rfl
theorem Zaj:false=Rows.editionsCompilesRow.goesBy Tryz.prog:=by kernel_rfl
theorem editionsCompiles_card:Rows.EditionsCompilesCardSaid:=
  Claim7.holds_tied_plain_at .later [] [.data,.data,.data,.data,.listed,.data,.mapped,.mapped,.pinned] true (true,"1d3dfa4aa572b2fe794702d35ba00370b457a21f3f06aa294548a69039eb282a") true
    editionsCompiles_holds (fun _ h=>by cases h) Zcp (fun _ h=>by cases h) editionsCompiles_row_tie rfl ⟨rfl,rfl⟩ Zai rfl
    (fun f fn hf hfn=>by
      obtain rfl:f=9:=Option.some.inj ((show Tryz.prog.funcNamed "wagonpool/wagonpoollaw22.EditionsCompiles" =some 9 by kernel_rfl).symm.trans hf)|>.symm
      obtain rfl:fn=Tryz.f9:=(Option.some.inj (Tryz.func9.symm.trans hfn)).symm
      exact ⟨Zac,fun j t ht=>by
        rw [Tryz.params9] at ht
        have hm:t∈ [22,3,3,3]:=by simpa using Array.mem_of_getElem? ht
        have hall:([22,3,3,3].all fun u=> !Tryz.prog.wantsStandIn u)=true:=by kernel_rfl
        exact (show Tryz.prog.wantsStandIn t=false by simpa using List.all_eq_true.1 hall t hm)⟩)
    Zaj
#print axioms editionsCompiles_card
end Go.Proofs.YtpmhbnameoklkaaGreatDoor
