import Derived.Test.YtbkgpcknakidkaaGreatDoorMg
/- For every two sources and kind, EditionsAmend returns true. -/
namespace Go.Proofs.YtbkgpcknakidkaaGreatDoor
open Go.ChangeShapes Go.WideShapes Go.ChangeAt Go.RowKit
set_option linter.unusedVariables false
set_option linter.unusedSimpArgs false
set_option maxRecDepth 100000

theorem Zg1:Rows.editionsAmendRow.wfByText (OpenSpec.ofChange Rows.editionsAmendSpec)=true:=by kernel_rfl
theorem Zfg:Tryz.prog.mainIs=some (true,("6488f0a9aab4fe9ef1a6a6ba27ce4482ca39d24c000ec1af8753be1490dc8f73" :String).toList):=by kernel_rfl
theorem Zdz:true=Tryz.prog.looks []:=by kernel_rfl
theorem Zfh:false=Rows.editionsAmendRow.goesBy Tryz.prog:=by kernel_rfl
theorem editionsAmend_card:Rows.EditionsAmendCardSaid:=
  Claim7.holds_tied_plain_at .later [] [.data,.data,.data,.data,.listed,.data,.mapped,.mapped,.pinned] true (true,"6488f0a9aab4fe9ef1a6a6ba27ce4482ca39d24c000ec1af8753be1490dc8f73") true
    editionsAmend_holds (fun _ h=>by cases h) Zg1 (fun _ h=>by cases h) editionsAmend_row_tie rfl ⟨rfl,rfl⟩ Zfg rfl
    (fun f fn hf hfn=>by
      obtain rfl:f=4:=Option.some.inj ((show Tryz.prog.funcNamed "wagonpool/wagonpoollaw22.EditionsAmend" =some 4 by kernel_rfl).symm.trans hf)|>.symm
      obtain rfl:fn=Tryz.f4:=(Option.some.inj (Tryz.func4.symm.trans hfn)).symm
      exact ⟨Zdz,fun j t ht=>by
        rw [Tryz.params4] at ht
        have hm:t∈ [9,9,3]:=by simpa using Array.mem_of_getElem? ht
        have hall:([9,9,3].all fun u=> !Tryz.prog.wantsStandIn u)=true:=by kernel_rfl
        exact (show Tryz.prog.wantsStandIn t=false by simpa using List.all_eq_true.1 hall t hm)⟩)
    Zfh
#print axioms editionsAmend_card
end Go.Proofs.YtbkgpcknakidkaaGreatDoor
