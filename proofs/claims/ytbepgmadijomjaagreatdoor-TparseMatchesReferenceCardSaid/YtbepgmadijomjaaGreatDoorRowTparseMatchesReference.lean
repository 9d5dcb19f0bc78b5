import Derived.Test.YtbepgmadijomjaaGreatDoorMf
/- For every source, TparseMatchesReference returns true. -/
namespace Go.Proofs.YtbepgmadijomjaaGreatDoor
open Go.ChangeShapes Go.WideShapes Go.ChangeAt Go.RowKit
set_option linter.unusedVariables false
set_option linter.unusedSimpArgs false
set_option maxRecDepth 100000

theorem tparseMatchesReference_lifted (os:Os) (started:os.Started) (H:Type) (enc:TypeId×Value->H):
    ReturnsInHanded {} Tryz.checked os 3 .any (fun w args=>(Rows.tparseMatchesReferenceSpec.pre enc Tryz.prog Tryz.f3 [] false w args/\laidMetH Tryz.prog Zgk w)/\sizedMet enc Tryz.prog Tryz.f3 (OpenSpec.ofChange Rows.tparseMatchesReferenceSpec) false w args)
      (Rows.tparseMatchesReferenceSpec.post enc Tryz.prog Tryz.f3 false true false false):=by
  refine returnsInHanded_of_change_and (C:=Tryz.checked) (X:=fun w _=>laidMetH Tryz.prog Zgk w) (fun _ _ _ hh h=>h.of_heap hh) Tryz.own started (by kernel_rfl) Tryz.func3
    (ChangeSpec.witness_shaped (enc:=enc) (C:=Tryz.checked) (os:=os) (X:=fun w _=>laidMetH Tryz.prog Zgk w) false (Zkv os) #[.string ⟨#[]⟩] 8 (Zxf os) (Z2z os _) (by kernel_rfl) (by kernel_rfl) (by kernel_rfl) (Z20 os _)) ?_
  intro W base args ds gs before hval0 hW _ hz hL _
  have hval:∀(j:Nat) t v,Tryz.f3.params[j]? =some t->args[j]? =some v->Value.okWide Tryz.prog W .any base t v:=hval0
  have hW':=hW
  obtain ⟨p,q,hA0,hV,rfl,hfz,hnd⟩:=hW
  have hA:DataW.TrodAll enc Tryz.prog W 0 (fun _=>true) true Tryz.f3.params.toList args.toList ds p:=hA0
  rw [Tryz.params3] at hA hval hz
  obtain ⟨v0,d0,rfl,rfl,h0⟩:=trodAll_one hA
  obtain ⟨rfl,rfl⟩:=trodVars_none hV
  obtain ⟨b,rfl,_,_,_⟩:=Go.ChangeMaps.open_string Tryz.underlying9 (hval 0 9 v0 rfl rfl) h0
  refine (Zyg (Z9s (toL b)) hL (Ygw (.str _ rfl))).mono fun en W' ⟨hen,hw⟩=> ?_
  exact ⟨_,hen,Z0n Tryz.laidOut rfl Tryz.underlying4 (by kernel_rfl) rfl hW' rfl rfl rfl hw⟩

theorem tparseMatchesReference_holds:Rows.TparseMatchesReferenceSaid:=
  OpenClaim.holds_of_wide 3 Tryz.f3 rfl rfl rfl rfl rfl rfl rfl ⟨rfl,rfl,rfl,rfl,rfl⟩ rfl rfl rfl rfl rfl (by kernel_rfl) Tryz.func3 (by kernel_rfl)
    (of_decide_eq_true (by kernel_rfl)) (by unfold Func.isWrapper;first|(rw [if_pos (by decide+kernel)];kernel_rfl)|(rw [if_neg (by decide+kernel)];exact ⟨rfl,rfl⟩))
    (fun os started H enc _=>tparseMatchesReference_lifted os started H enc)

theorem tparseMatchesReference_card:Rows.TparseMatchesReferenceCardSaid:=
  Claim7.holds_tied_plain_at .later [] [.data,.data,.data,.data,.listed,.data,.mapped,.mapped,.pinned] true (true,"8eb057c64c3985b9c61d9fef37ea96aa7e5f6c85259d6a0647e4b67041a0a548") true
    tparseMatchesReference_holds (fun _ h=>by cases h) (by kernel_rfl) (fun _ h=>by cases h) tparseMatchesReference_row_tie rfl ⟨rfl,rfl⟩ (by kernel_rfl) rfl
    (fun f fn hf hfn=>by
      obtain rfl:f=3:=Option.some.inj ((show Tryz.prog.funcNamed "wagonpool/wagonpoollaw16.TparseMatchesReference" =some 3 by kernel_rfl).symm.trans hf)|>.symm
      obtain rfl:fn=Tryz.f3:=(Option.some.inj (Tryz.func3.symm.trans hfn)).symm
      exact ⟨by kernel_rfl,fun j t ht=>by
        rw [Tryz.params3] at ht
        have hm:t∈ [9]:=by simpa using Array.mem_of_getElem? ht
        have hall:([9].all fun u=> !Tryz.prog.wantsStandIn u)=true:=by kernel_rfl
        exact (show Tryz.prog.wantsStandIn t=false by simpa using List.all_eq_true.1 hall t hm)⟩)
    (by kernel_rfl)
#print axioms tparseMatchesReference_card
end Go.Proofs.YtbepgmadijomjaaGreatDoor
