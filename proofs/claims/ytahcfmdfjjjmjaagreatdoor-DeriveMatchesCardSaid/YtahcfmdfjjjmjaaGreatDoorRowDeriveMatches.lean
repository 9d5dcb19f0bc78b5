import Derived.Test.YtahcfmdfjjjmjaaGreatDoorMg
/- For all programs, attributes, derivations and numbers, DeriveMatches returns true. -/
namespace Go.Proofs.YtahcfmdfjjjmjaaGreatDoor
open Go.ChangeShapes Go.WideShapes Go.ChangeAt Go.RowKit
set_option linter.unusedVariables false
set_option linter.unusedSimpArgs false
set_option maxRecDepth 100000

theorem Zdv:Rows.deriveMatchesRow.wfByText (OpenSpec.ofChange Rows.deriveMatchesSpec)=true:=by kernel_rfl
theorem Zbt:Tryz.prog.mainIs=some (true,("6ad3788ce570272f8064151a6981ddf85a5656d3e07d7d36f781397f54282f63" :String).toList):=by kernel_rfl
theorem Za6:true=Tryz.prog.looks []:=by kernel_rfl
theorem Zbu:false=Rows.deriveMatchesRow.goesBy Tryz.prog:=by kernel_rfl
theorem deriveMatches_card:Rows.DeriveMatchesCardSaid:=
  Claim7.holds_tied_plain_at .later [] [.data,.data,.data,.funcs] true (true,"6ad3788ce570272f8064151a6981ddf85a5656d3e07d7d36f781397f54282f63") true
    deriveMatches_holds (fun _ h=>by cases h) Zdv (fun _ h=>by cases h) deriveMatches_row_tie rfl ⟨rfl,rfl⟩ Zbt rfl
    (fun f fn hf hfn=>by
      obtain rfl:f=3:=Option.some.inj ((show Tryz.prog.funcNamed "wagonpool/wagonpoollaw30.DeriveMatches" =some 3 by kernel_rfl).symm.trans hf)|>.symm
      obtain rfl:fn=Tryz.f3:=(Option.some.inj (Tryz.func3.symm.trans hfn)).symm
      exact ⟨Za6,fun j t ht=>by
        rw [Tryz.params3] at ht
        have hm:t∈ [23,26,30,3]:=by simpa using Array.mem_of_getElem? ht
        have hall:([23,26,30,3].all fun u=> !Tryz.prog.wantsStandIn u)=true:=by kernel_rfl
        exact (show Tryz.prog.wantsStandIn t=false by simpa using List.all_eq_true.1 hall t hm)⟩)
    Zbu
#print axioms deriveMatches_card
end Go.Proofs.YtahcfmdfjjjmjaaGreatDoor
