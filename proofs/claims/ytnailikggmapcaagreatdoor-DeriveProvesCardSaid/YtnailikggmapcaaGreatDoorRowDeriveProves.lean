import Derived.Test.YtnailikggmapcaaGreatDoorMf
/- For all programs, attributes and numbers, DeriveProves returns true. -/
namespace Go.Proofs.YtnailikggmapcaaGreatDoor
open Go.ChangeShapes Go.WideShapes Go.ChangeAt Go.RowKit
set_option linter.unusedVariables false
set_option linter.unusedSimpArgs false
set_option maxRecDepth 100000

theorem Zdh:Rows.deriveProvesRow.wfByText (OpenSpec.ofChange Rows.deriveProvesSpec)=true:=by kernel_rfl
theorem Zbk:Tryz.prog.mainIs=some (true,("99306d6463f243287e3678710cf00fbac9e130cc170b65ed839d676a7bca4f89" :String).toList):=by kernel_rfl
theorem Zau:true=Tryz.prog.looks []:=by kernel_rfl
theorem Zbl:false=Rows.deriveProvesRow.goesBy Tryz.prog:=by kernel_rfl
theorem deriveProves_card:Rows.DeriveProvesCardSaid:=
  Claim7.holds_tied_plain_at .later [] [.data,.data,.data,.funcs] true (true,"99306d6463f243287e3678710cf00fbac9e130cc170b65ed839d676a7bca4f89") true
    deriveProves_holds (fun _ h=>by cases h) Zdh (fun _ h=>by cases h) deriveProves_row_tie rfl ⟨rfl,rfl⟩ Zbk rfl
    (fun f fn hf hfn=>by
      obtain rfl:f=6:=Option.some.inj ((show Tryz.prog.funcNamed "wagonpool/wagonpoollaw30.DeriveProves" =some 6 by kernel_rfl).symm.trans hf)|>.symm
      obtain rfl:fn=Tryz.f6:=(Option.some.inj (Tryz.func6.symm.trans hfn)).symm
      exact ⟨Zau,fun j t ht=>by
        rw [Tryz.params6] at ht
        have hm:t∈ [23,26,3]:=by simpa using Array.mem_of_getElem? ht
        have hall:([23,26,3].all fun u=> !Tryz.prog.wantsStandIn u)=true:=by kernel_rfl
        exact (show Tryz.prog.wantsStandIn t=false by simpa using List.all_eq_true.1 hall t hm)⟩)
    Zbl
#print axioms deriveProves_card
end Go.Proofs.YtnailikggmapcaaGreatDoor
