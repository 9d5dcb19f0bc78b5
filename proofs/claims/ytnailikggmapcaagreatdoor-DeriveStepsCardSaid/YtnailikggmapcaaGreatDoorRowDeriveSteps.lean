import Derived.Test.YtnailikggmapcaaGreatDoorMf
/- For all programs and attributes, DeriveSteps returns true. -/
namespace Go.Proofs.YtnailikggmapcaaGreatDoor
open Go.ChangeShapes Go.WideShapes Go.ChangeAt Go.RowKit
set_option linter.unusedVariables false
set_option linter.unusedSimpArgs false
set_option maxRecDepth 100000

theorem Zel:Rows.deriveStepsRow.wfByText (OpenSpec.ofChange Rows.deriveStepsSpec)=true:=by kernel_rfl
theorem Zcg:Tryz.prog.mainIs=some (true,("99306d6463f243287e3678710cf00fbac9e130cc170b65ed839d676a7bca4f89" :String).toList):=by kernel_rfl
theorem Zbr:true=Tryz.prog.looks []:=by kernel_rfl
theorem Zch:false=Rows.deriveStepsRow.goesBy Tryz.prog:=by kernel_rfl
theorem deriveSteps_card:Rows.DeriveStepsCardSaid:=
  Claim7.holds_tied_plain_at .later [] [.data,.data,.data,.funcs] true (true,"99306d6463f243287e3678710cf00fbac9e130cc170b65ed839d676a7bca4f89") true
    deriveSteps_holds (fun _ h=>by cases h) Zel (fun _ h=>by cases h) deriveSteps_row_tie rfl ⟨rfl,rfl⟩ Zcg rfl
    (fun f fn hf hfn=>by
      obtain rfl:f=4:=Option.some.inj ((show Tryz.prog.funcNamed "wagonpool/wagonpoollaw30.DeriveSteps" =some 4 by kernel_rfl).symm.trans hf)|>.symm
      obtain rfl:fn=Tryz.f4:=(Option.some.inj (Tryz.func4.symm.trans hfn)).symm
      exact ⟨Zbr,fun j t ht=>by
        rw [Tryz.params4] at ht
        have hm:t∈ [23,26]:=by simpa using Array.mem_of_getElem? ht
        have hall:([23,26].all fun u=> !Tryz.prog.wantsStandIn u)=true:=by kernel_rfl
        exact (show Tryz.prog.wantsStandIn t=false by simpa using List.all_eq_true.1 hall t hm)⟩)
    Zch
#print axioms deriveSteps_card
end Go.Proofs.YtnailikggmapcaaGreatDoor
