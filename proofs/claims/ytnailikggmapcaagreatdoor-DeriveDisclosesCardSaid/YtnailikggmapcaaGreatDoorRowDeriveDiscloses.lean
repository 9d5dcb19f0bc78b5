import Derived.Test.YtnailikggmapcaaGreatDoorMf
/- For all programs and attributes, DeriveDiscloses returns true. -/
namespace Go.Proofs.YtnailikggmapcaaGreatDoor
open Go.ChangeShapes Go.WideShapes Go.ChangeAt Go.RowKit
set_option linter.unusedVariables false
set_option linter.unusedSimpArgs false
set_option maxRecDepth 100000

theorem Zbc:Rows.deriveDisclosesRow.wfByText (OpenSpec.ofChange Rows.deriveDisclosesSpec)=true:=by kernel_rfl
theorem U3:Tryz.prog.mainIs=some (true,("99306d6463f243287e3678710cf00fbac9e130cc170b65ed839d676a7bca4f89" :String).toList):=by kernel_rfl
theorem Ud:true=Tryz.prog.looks []:=by kernel_rfl
theorem U4:false=Rows.deriveDisclosesRow.goesBy Tryz.prog:=by kernel_rfl
theorem deriveDiscloses_card:Rows.DeriveDisclosesCardSaid:=
  Claim7.holds_tied_plain_at .later [] [.data,.data,.data,.funcs] true (true,"99306d6463f243287e3678710cf00fbac9e130cc170b65ed839d676a7bca4f89") true
    deriveDiscloses_holds (fun _ h=>by cases h) Zbc (fun _ h=>by cases h) deriveDiscloses_row_tie rfl ⟨rfl,rfl⟩ U3 rfl
    (fun f fn hf hfn=>by
      obtain rfl:f=5:=Option.some.inj ((show Tryz.prog.funcNamed "wagonpool/wagonpoollaw30.DeriveDiscloses" =some 5 by kernel_rfl).symm.trans hf)|>.symm
      obtain rfl:fn=Tryz.f5:=(Option.some.inj (Tryz.func5.symm.trans hfn)).symm
      exact ⟨Ud,fun j t ht=>by
        rw [Tryz.params5] at ht
        have hm:t∈ [23,26]:=by simpa using Array.mem_of_getElem? ht
        have hall:([23,26].all fun u=> !Tryz.prog.wantsStandIn u)=true:=by kernel_rfl
        exact (show Tryz.prog.wantsStandIn t=false by simpa using List.all_eq_true.1 hall t hm)⟩)
    U4
#print axioms deriveDiscloses_card
end Go.Proofs.YtnailikggmapcaaGreatDoor
