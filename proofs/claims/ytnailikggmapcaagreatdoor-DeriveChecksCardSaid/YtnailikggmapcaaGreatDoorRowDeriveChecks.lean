import Derived.Test.YtnailikggmapcaaGreatDoorMf
/- For all programs, attributes, numbers and digests, DeriveChecks returns true. -/
namespace Go.Proofs.YtnailikggmapcaaGreatDoor
open Go.ChangeShapes Go.WideShapes Go.ChangeAt Go.RowKit
set_option linter.unusedVariables false
set_option linter.unusedSimpArgs false
set_option maxRecDepth 100000

theorem Zdz:Rows.deriveChecksRow.wfByText (OpenSpec.ofChange Rows.deriveChecksSpec)=true:=by kernel_rfl
theorem Zbp:Tryz.prog.mainIs=some (true,("99306d6463f243287e3678710cf00fbac9e130cc170b65ed839d676a7bca4f89" :String).toList):=by kernel_rfl
theorem Za0:true=Tryz.prog.looks []:=by kernel_rfl
theorem Zbq:false=Rows.deriveChecksRow.goesBy Tryz.prog:=by kernel_rfl
theorem deriveChecks_card:Rows.DeriveChecksCardSaid:=
  Claim7.holds_tied_plain_at .later [] [.data,.data,.data,.funcs] true (true,"99306d6463f243287e3678710cf00fbac9e130cc170b65ed839d676a7bca4f89") true
    deriveChecks_holds (fun _ h=>by cases h) Zdz (fun _ h=>by cases h) deriveChecks_row_tie rfl ⟨rfl,rfl⟩ Zbp rfl
    (fun f fn hf hfn=>by
      obtain rfl:f=3:=Option.some.inj ((show Tryz.prog.funcNamed "wagonpool/wagonpoollaw30.DeriveChecks" =some 3 by kernel_rfl).symm.trans hf)|>.symm
      obtain rfl:fn=Tryz.f3:=(Option.some.inj (Tryz.func3.symm.trans hfn)).symm
      exact ⟨Za0,fun j t ht=>by
        rw [Tryz.params3] at ht
        have hm:t∈ [23,26,3,28,3]:=by simpa using Array.mem_of_getElem? ht
        have hall:([23,26,3,28,3].all fun u=> !Tryz.prog.wantsStandIn u)=true:=by kernel_rfl
        exact (show Tryz.prog.wantsStandIn t=false by simpa using List.all_eq_true.1 hall t hm)⟩)
    Zbq
#print axioms deriveChecks_card
end Go.Proofs.YtnailikggmapcaaGreatDoor
