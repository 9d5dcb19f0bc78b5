import Derived.Test.YtbkgpcknakidkaaGreatDoorMg
/- For every source and kind, EditionsGood returns true. -/
namespace Go.Proofs.YtbkgpcknakidkaaGreatDoor
open Go.ChangeShapes Go.WideShapes Go.ChangeAt Go.RowKit
set_option linter.unusedVariables false
set_option linter.unusedSimpArgs false
set_option maxRecDepth 100000

theorem Zh9:Rows.editionsGoodRow.wfByText (OpenSpec.ofChange Rows.editionsGoodSpec)=true:=by kernel_rfl
theorem Zfn:Tryz.prog.mainIs=some (true,("6488f0a9aab4fe9ef1a6a6ba27ce4482ca39d24c000ec1af8753be1490dc8f73" :String).toList):=by kernel_rfl
theorem Zea:true=Tryz.prog.looks []:=by kernel_rfl
theorem Zfo:false=Rows.editionsGoodRow.goesBy Tryz.prog:=by kernel_rfl
theorem editionsGood_card:Rows.EditionsGoodCardSaid:=
  Claim7.holds_tied_plain_at .later [] [.data,.data,.data,.data,.listed,.data,.mapped,.mapped,.pinned] true (true,"6488f0a9aab4fe9ef1a6a6ba27ce4482ca39d24c000ec1af8753be1490dc8f73") true
    editionsGood_holds (fun _ h=>by cases h) Zh9 (fun _ h=>by cases h) editionsGood_row_tie rfl ⟨rfl,rfl⟩ Zfn rfl
    (fun f fn hf hfn=>by
      obtain rfl:f=3:=Option.some.inj ((show Tryz.prog.funcNamed "wagonpool/wagonpoollaw22.EditionsGood" =some 3 by kernel_rfl).symm.trans hf)|>.symm
      obtain rfl:fn=Tryz.f3:=(Option.some.inj (Tryz.func3.symm.trans hfn)).symm
      exact ⟨Zea,fun j t ht=>by
        rw [Tryz.params3] at ht
        have hm:t∈ [9,3]:=by simpa using Array.mem_of_getElem? ht
        have hall:([9,3].all fun u=> !Tryz.prog.wantsStandIn u)=true:=by kernel_rfl
        exact (show Tryz.prog.wantsStandIn t=false by simpa using List.all_eq_true.1 hall t hm)⟩)
    Zfo
#print axioms editionsGood_card
end Go.Proofs.YtbkgpcknakidkaaGreatDoor
